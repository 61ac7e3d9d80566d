/- A build that came in, or was made: its cells, read only. -/
import Derived.Test.YtijiggolphppbaaGreatDoorRows2
import Derived.Test.YtijiggolphppbaaGreatDoorReB
namespace Go.Proofs.YtijiggolphppbaaGreatDoor
open Go.ChangeShapes Go.WideShapes Go.ChangeAt Go.RowKit

def bs (l : List UInt8) : ByteArray := ⟨l.toArray⟩
theorem bs_list (s : ByteArray) : bs s.data.toList = s := by cases s; simp [bs]
theorem bs_data (l : List UInt8) : (bs l).data.toList = l := by simp [bs]
theorem bs_size (l : List UInt8) : (bs l).size = l.length := by simp [bs, ByteArray.size]
theorem bs_inj {a b : List UInt8} (h : bs a = bs b) : a = b := by rw [← bs_data a, h, bs_data]
theorem bs_append (a b : List UInt8) : bs (a ++ b) = bs a ++ bs b := by
  apply ByteArray.ext
  simp [bs]

theorem strs_of_cell {H : Type} {enc : TypeId × Value → H} {P : Program} {W : World} {b2 m : Nat} {t e : TypeId} {u : Value} {y : DataW H × List MemPlace} (ht : P.underlying t = some (.slice e)) (he : P.underlying e = some .string) (hc : P.cellsOf e = 1)
    (hf : DataW.trod enc P W b2 (fun _ => true) true m t [u] = some y) : ∃ ss, StrsAt W u ss := by
  rcases open_strings ht he hc hf with ⟨hcs, _⟩ | ⟨a, len', cap', ss, hcs, _, hl, hm, hz, _, hcell, hws⟩
  · simp only [List.cons.injEq, and_true] at hcs
    subst hcs
    exact ⟨[], .inl ⟨rfl, rfl⟩, Nat.zero_le _, by simp⟩
  · simp only [List.cons.injEq, and_true] at hcs
    subst hcs
    simp only [if_true] at hz
    have hlen : (ss.take len').length = len' := by simp; omega
    refine ⟨ss.take len', .inr ⟨a, cap', by rw [hlen], fun i hi => ?_⟩, by rw [hlen]; omega, fun s hs => hws s (List.mem_of_mem_take hs)⟩
    rw [hcell i (by omega)]
    congr 2
    simp only [List.getElem_take]
    rw [List.getD_eq_getElem?_getD, List.getElem?_eq_getElem (by omega)]
    rfl

/-- v is a slice of the names ss. -/
def NamesAt (w : World) (v : Value) (ss : List (List UInt8)) : Prop := StrsAt w v (ss.map bs)
theorem namesAt_of {w : World} {v : Value} {ss : List ByteArray} (h : StrsAt w v ss) : NamesAt w v (ss.map (·.data.toList)) := by
  have : (ss.map (·.data.toList)).map bs = ss := by
    rw [List.map_map]
    calc ss.map (bs ∘ (·.data.toList)) = ss.map id := List.map_congr_left (fun s _ => bs_list s)
      _ = ss := List.map_id ss
  unfold NamesAt
  rw [this]; exact h
theorem NamesAt.chg {F : Nat → Prop} {w w' : World} {v : Value} {ss : List (List UInt8)} (h : NamesAt w v ss) (hc : Chg F w w') (hF : ∀ k, k < w.heap.size → ¬ F k) : NamesAt w' v ss := StrsAt.chg h hc hF

def noAct : ActR := ⟨[], [], []⟩
/-- v is a slice of the actions xs. -/
structure ActsAt (w : World) (v : Value) (xs : List ActR) (iv : Nat → Value) : Prop where
  rows : RowsAt w v 3 xs.length (fun i => [.string (bs (xs.getD i noAct).name), iv i, .string (bs (xs.getD i noAct).code)])
  ins : ∀ i, i < xs.length → NamesAt w (iv i) (xs.getD i noAct).ins
  wide : ∀ a ∈ xs, a.name.length ≤ maxLen ∧ a.code.length ≤ maxLen
theorem ActsAt.chg {F : Nat → Prop} {w w' : World} {v : Value} {xs : List ActR} {iv : Nat → Value} (h : ActsAt w v xs iv) (hc : Chg F w w') (hF : ∀ k, k < w.heap.size → ¬ F k) : ActsAt w' v xs iv :=
  ⟨h.rows.chg hc hF, fun i hi => (h.ins i hi).chg hc hF, h.wide⟩
/-- v is the build g. -/
def GrAt (w : World) (v : Value) (g : GrR) : Prop := ∃ sv av iv, v = .agg #[sv, av] ∧ NamesAt w sv g.srcs ∧ ActsAt w av g.acts iv
theorem GrAt.chg {F : Nat → Prop} {w w' : World} {v : Value} {g : GrR} (h : GrAt w v g) (hc : Chg F w w') (hF : ∀ k, k < w.heap.size → ¬ F k) : GrAt w' v g := by
  obtain ⟨sv, av, iv, hv, h1, h2⟩ := h
  exact ⟨sv, av, iv, hv, h1.chg hc hF, h2.chg hc hF⟩

theorem rows_of_cell {H : Type} {enc : TypeId × Value → H} {P : Program} {W : World} {b2 m0 : Nat} {t e : TypeId} {fs : Array Field} {u : Value} {y : DataW H × List MemPlace} (ht : P.underlying t = some (.slice e)) (he : P.underlying e = some (.struct fs))
    (hone : Go.Deep.oneCellFields P fs = true) (hC : P.cellsOf e = fs.size) (hf : DataW.trod enc P W b2 (fun _ => true) true m0 t [u] = some y) :
    ∃ n C, RowsAt W u fs.size n C ∧ ∀ i, i < n → ∀ (j : Nat) (f : Field), fs[j]? = some f → ∃ (u : Value) (y : DataW H × List MemPlace) (m : Nat), (C i)[j]? = some u ∧ DataW.trod enc P W b2 (fun _ => true) true m f.type [u] = some y := by
  rcases Go.Deep.open_slice ht hf with ⟨hcs, _⟩ | ⟨a, len, cap, m, n, D, Pl, hcs, _, hl, hm, hmm, _, hi⟩
  · simp only [List.cons.injEq, and_true] at hcs
    subst hcs
    exact ⟨0, fun _ => [], ⟨.inl ⟨rfl, rfl⟩, Nat.zero_le _, fun i hi => by omega⟩, fun i hi => by omega⟩
  · simp only [List.cons.injEq, and_true] at hcs
    subst hcs
    simp only [if_true] at hmm
    have hch : ∀ i, ∃ cs : List Value, i < len → (cs.length = fs.size ∧ (∀ j, j < fs.size → W.cell? (a.add (i * fs.size + j)) = cs[j]?) ∧
        ∀ (j : Nat) (f : Field), fs[j]? = some f → ∃ (u : Value) (y : DataW H × List MemPlace) (m : Nat), cs[j]? = some u ∧ DataW.trod enc P W b2 (fun _ => true) true m f.type [u] = some y) := by
      intro i
      by_cases hil : i < len
      · obtain ⟨cs', hc, ht'⟩ := hi i (by omega)
        rw [hC] at hc
        obtain ⟨ys, n', _, _, hlen, hyl, hfs⟩ := DataW.trod_struct he ht'
        obtain ⟨_, hcl, hat⟩ := World.cells?_some hc
        refine ⟨cs', fun _ => ⟨hcl, fun j hj => ?_, fun j f hj => ?_⟩⟩
        · rw [← hat j hj, Go.Deep.add_add]
        · have hjl : j < fs.size := (Array.getElem?_eq_some_iff.1 hj).1
          obtain ⟨ho, hk⟩ := Go.Deep.hone_of hone j f hj
          have h1 := hfs j f hj
          have hjc : j < cs'.length := by omega
          rw [ho, hk, List.drop_eq_getElem_cons hjc, List.take_succ_cons, List.take_zero, List.getElem?_eq_getElem (by omega)] at h1
          exact ⟨_, _, _, List.getElem?_eq_getElem hjc, h1⟩
      · exact ⟨[], fun h => absurd h hil⟩
    refine ⟨len, fun i => Classical.choose (hch i), ⟨.inr ⟨a, cap, rfl, fun i hil j hj => ((Classical.choose_spec (hch i)) hil).2.1 j hj⟩, by omega, fun i hil => ((Classical.choose_spec (hch i)) hil).1⟩, fun i hil => ((Classical.choose_spec (hch i)) hil).2.2⟩

set_option maxRecDepth 100000 in
theorem acts_of {H : Type} {enc : TypeId × Value → H} {W : World} {b2 m : Nat} {u : Value} {y : DataW H × List MemPlace}
    (h : DataW.trod enc Tryz.prog W b2 (fun _ => true) true m 23 [u] = some y) : ∃ xs iv, ActsAt W u xs iv := by
  obtain ⟨n, C, hR, hC⟩ := rows_of_cell Tryz.underlying23 Tryz.underlying84 (by kernel_rfl) (by kernel_rfl) h
  have hch : ∀ i, ∃ x : ActR × Value, i < n → C i = [.string (bs x.1.name), x.2, .string (bs x.1.code)] ∧ NamesAt W x.2 x.1.ins ∧ x.1.name.length ≤ maxLen ∧ x.1.code.length ≤ maxLen := by
    intro i
    by_cases hi : i < n
    · have hw := hR.wide i hi
      have hf := hC i hi
      obtain ⟨u0, y0, m0, e0, r0⟩ := hf 0 _ rfl
      obtain ⟨u1, y1, m1, e1, r1⟩ := hf 1 _ rfl
      obtain ⟨u2, y2, m2, e2, r2⟩ := hf 2 _ rfl
      obtain ⟨ys, n', _, _, hlen, hyl, hfs⟩ := DataW.trod_struct Tryz.underlying74 r0
      have q0 := hfs 0 _ rfl
      have hq : ys[0]? = some (ys[0]'(by rw [hyl]; decide)) := List.getElem?_eq_getElem _
      rw [hq] at q0
      obtain ⟨k0, g0, _, w0⟩ := DataW.trod_string Tryz.underlying9 q0
      obtain ⟨ss, S⟩ := strs_of_cell Tryz.underlying22 Tryz.underlying9 (by kernel_rfl) r1
      obtain ⟨k2, g2, _, w2⟩ := DataW.trod_string Tryz.underlying9 r2
      have hct : Tryz.prog.cellsOf 9 = 1 := by kernel_rfl
      have g0' : ([u0].drop 0).take (Tryz.prog.cellsOf 9) = [.string k0] := g0
      rw [hct] at g0'
      simp only [List.drop_zero, List.take_succ_cons, List.take_zero, List.cons.injEq, and_true] at g0' g2
      subst g0' g2
      refine ⟨⟨⟨k0.data.toList, ss.map (·.data.toList), k2.data.toList⟩, u1⟩, fun _ => ⟨?_, namesAt_of S, by simpa using w0, by simpa using w2⟩⟩
      simp only [bs_list]
      generalize C i = L at *
      match L, hw with
      | [c0, c1, c2], _ =>
        simp at e0 e1 e2
        subst e0 e1 e2
        rfl
    · exact ⟨⟨noAct, .bool true⟩, fun h => absurd h hi⟩
  have hL : ((List.range n).map fun i => (Classical.choose (hch i)).1).length = n := by simp
  have hg : ∀ i, i < n → ((List.range n).map fun i => (Classical.choose (hch i)).1).getD i noAct = (Classical.choose (hch i)).1 := by
    intro i hi
    simp [hi]
  refine ⟨(List.range n).map fun i => (Classical.choose (hch i)).1, fun i => (Classical.choose (hch i)).2, ⟨?_, ?_, ?_⟩, ?_, ?_⟩
  · rw [hL]
    rcases hR.form with h | ⟨a, cap, hv, hc⟩
    · exact .inl h
    · refine .inr ⟨a, cap, hv, fun i hi j hj => ?_⟩
      rw [hg i hi, ← ((Classical.choose_spec (hch i)) hi).1]
      exact hc i hi j hj
  · rw [hL]; exact hR.le
  · intro i hi
    rfl
  · intro i hi
    rw [hL] at hi
    rw [hg i hi]
    exact ((Classical.choose_spec (hch i)) hi).2.1
  · intro x hx
    obtain ⟨i, hi, rfl⟩ := List.mem_map.1 hx
    exact ((Classical.choose_spec (hch i)) (List.mem_range.1 hi)).2.2
set_option maxRecDepth 100000 in
theorem gr_of {H : Type} {enc : TypeId × Value → H} {W : World} {base b2 : Nat} {v : Value} {d : DataW H} {p : List MemPlace}
    (hval : Value.okWide Tryz.prog W .any base 25 v) (h : DataW.Trod enc Tryz.prog W b2 (fun _ => true) true 25 v d p) : ∃ g, GrAt W v g := by
  obtain ⟨cs, rfl, hsz⟩ := okWide_struct Tryz.underlying25 hval
  have hct : Tryz.prog.cellsOf 25 = 2 := by kernel_rfl
  rw [hct] at hsz
  obtain ⟨fuel, hf⟩ := h
  obtain ⟨ys, n', _, _, hlen, hyl, hfs⟩ := DataW.trod_struct Tryz.underlying25 hf
  have q0 := hfs 0 _ rfl
  have q1 := hfs 1 _ rfl
  have hq : ys[0]? = some (ys[0]'(by rw [hyl]; decide)) := List.getElem?_eq_getElem _
  have hq1 : ys[1]? = some (ys[1]'(by rw [hyl]; decide)) := List.getElem?_eq_getElem _
  rw [hq] at q0
  rw [hq1] at q1
  have hc0 : Tryz.prog.cellsOf 22 = 1 := by kernel_rfl
  have hc1 : Tryz.prog.cellsOf 23 = 1 := by kernel_rfl
  obtain ⟨sv, av, rfl⟩ : ∃ sv av, cs = #[sv, av] := by
    obtain ⟨l⟩ := cs
    match l, hsz with
    | [a, b], _ => exact ⟨a, b, rfl⟩
  have q0' : DataW.trod enc Tryz.prog W b2 (fun _ => true) true n' 22 (([sv, av].drop 0).take (Tryz.prog.cellsOf 22)) = some (ys[0]'(by rw [hyl]; decide)) := q0
  have q1' : DataW.trod enc Tryz.prog W b2 (fun _ => true) true n' 23 (([sv, av].drop 1).take (Tryz.prog.cellsOf 23)) = some (ys[1]'(by rw [hyl]; decide)) := q1
  rw [hc0] at q0'
  rw [hc1] at q1'
  obtain ⟨ss, S⟩ := strs_of_cell Tryz.underlying22 Tryz.underlying9 (by kernel_rfl) q0'
  obtain ⟨xs, iv, A⟩ := acts_of q1'
  exact ⟨⟨ss.map (·.data.toList), xs⟩, sv, av, iv, rfl, namesAt_of S, A⟩
end Go.Proofs.YtijiggolphppbaaGreatDoor
