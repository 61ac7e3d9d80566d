/- A slice of structs that came in: its cells, its elements. -/
import Derived.Test.YtfjihepjeafpmaaOpen
import Derived.Deep.Slices
import Derived.Deep.Fields
namespace Go.Proofs.Ytfjihepjeafpmaa
open Go.ChangeShapes Go.WideShapes Go.ChangeAt Go.RowKit

/-- v is a slice of n elements of sz cells each; element i's cells are C i (read only). -/
structure RowsAt (w : World) (v : Value) (sz n : Nat) (C : Nat → List Value) : Prop where
  form : (v = .slice none 0 0 ∧ n = 0) ∨ ∃ (a : Addr) (cap : Nat), v = .slice (some a) n cap ∧ ∀ i, i < n → ∀ j, j < sz → w.cell? (a.add (i * sz + j)) = (C i)[j]?
  le : n ≤ maxLen
  wide : ∀ i, i < n → (C i).length = sz
theorem RowsAt.len {P : Program} {w0 : World} {v : Value} {sz n : Nat} {C : Nat → List Value} (h : RowsAt w0 v sz n C) {t e : TypeId} (ht : P.underlying t = some (.slice e)) (w : World) (ty : TypeId) :
    (Builtin.len_ #[t] ty #[v]).run P w = .ok (.int .i64 n) w := by
  rcases h.form with ⟨rfl, rfl⟩ | ⟨a, cap, rfl, _⟩ <;> (simp [Builtin.len_, run_underlying ht]; rfl)
theorem RowsAt.ix {P : Program} {w0 : World} {v : Value} {sz n : Nat} {C : Nat → List Value} (h : RowsAt w0 v sz n C) {t e : TypeId} (ht : P.underlying t = some (.slice e)) (hs : ∀ w, (sizeOf e).run P w = .ok sz w) (hsz : 0 < sz) (k : Nat) (hk : k < n) :
    ∃ bb oo, (∀ w, (Instr.indexAt t v (.int .i64 k)).run P w = .ok (.pointer (some ⟨bb, oo, none⟩)) w) ∧ (∀ j, j < sz → w0.cell? ⟨bb, oo + j, none⟩ = (C k)[j]?) ∧ bb < w0.heap.size := by
  rcases h.form with ⟨_, rfl⟩ | ⟨a, cap, rfl, hc⟩
  · simp at hk
  · have h0 := hc k hk 0 hsz
    rw [Nat.add_zero, List.getElem?_eq_getElem (by rw [h.wide k hk]; exact hsz)] at h0
    have hsp := World.cell?_spot h0
    have hlt := World.block_lt_of_cell? w0 _ h0
    have he : ∃ oo, a.add (k * sz) = ⟨a.block, oo, none⟩ := by
      cases ha : a.add (k * sz) with
      | mk b o s =>
        rw [ha] at hsp
        simp only at hsp
        subst hsp
        have : b = a.block := by have := congrArg Addr.block ha; unfold Addr.add at this; split at this <;> simp_all
        exact ⟨o, by rw [this]⟩
    obtain ⟨oo, ho⟩ := he
    have hb : (0 : Int) ≤ (k : Int) ∧ (k : Int) < (n : Int) := ⟨by omega, by omega⟩
    refine ⟨a.block, oo, fun w => ?_, fun j hj => ?_, by rw [ho] at hlt; exact hlt⟩
    · simp [Instr.indexAt, run_underlying ht, asIntOf, hb.1, hs, hk, ho]
    · rw [← hc k hk j hj]
      congr 1
      have e1 : (a.add (k * sz)).add j = a.add (k * sz + j) := by
        unfold Addr.add
        by_cases hi : k * sz = 0 <;> by_cases hj : j = 0 <;> simp [hi, hj, Nat.add_assoc]
      rw [← e1, ho]
      unfold Addr.add
      split <;> simp_all

theorem RowsAt.chg {F : Nat → Prop} {w w' : World} {v : Value} {sz n : Nat} {C : Nat → List Value} (h : RowsAt w v sz n C) (hc : Chg F w w') (hF : ∀ k, k < w.heap.size → ¬ F k) : RowsAt w' v sz n C := by
  refine ⟨?_, h.le, h.wide⟩
  rcases h.form with h1 | ⟨a, cap, hv, h1⟩
  · exact .inl h1
  · refine .inr ⟨a, cap, hv, fun i hi j hj => ?_⟩
    have hw := h.wide i hi
    have h2 := h1 i hi j hj
    rw [List.getElem?_eq_getElem (by omega)] at h2 ⊢
    exact hc.cell h2 (hF _ (World.block_lt_of_cell? w _ h2))

theorem rows_of {H : Type} {enc : TypeId × Value → H} {P : Program} {W : World} {base b2 : Nat} {t e : TypeId} {fs : Array Field} {v : Value} {d : DataW H} {p : List MemPlace} (ht : P.underlying t = some (.slice e)) (he : P.underlying e = some (.struct fs))
    (hone : Go.Deep.oneCellFields P fs = true) (hC : P.cellsOf e = fs.size) (hval : Value.okWide P W .any base t v) (h : DataW.Trod enc P W b2 (fun _ => true) true t v d p) :
    ∃ n C, RowsAt W v fs.size n C ∧ ∀ i, i < n → ∀ (j : Nat) (f : Field), fs[j]? = some f → ∃ (u : Value) (y : DataW H × List MemPlace) (m : Nat), (C i)[j]? = some u ∧ DataW.trod enc P W b2 (fun _ => true) true m f.type [u] = some y := by
  obtain ⟨a0, len, cap, rfl⟩ := okWide_slice ht hval
  obtain ⟨fuel, hf⟩ := h
  rcases Go.Deep.open_slice ht hf with ⟨hcs, _⟩ | ⟨a, len', cap', m, n, D, Pl, hcs, _, hl, hm, hmm, _, hi⟩
  · simp [Value.cells] at hcs
    obtain ⟨rfl, rfl, rfl⟩ := hcs
    exact ⟨0, fun _ => [], ⟨.inl ⟨rfl, rfl⟩, Nat.zero_le _, fun i hi => by omega⟩, fun i hi => by omega⟩
  · simp [Value.cells] at hcs
    obtain ⟨rfl, rfl, rfl⟩ := hcs
    simp only [if_true] at hmm
    have hch : ∀ i, ∃ cs : List Value, i < len → (cs.length = fs.size ∧ (∀ j, j < fs.size → W.cell? (a.add (i * fs.size + j)) = cs[j]?) ∧
        ∀ (j : Nat) (f : Field), fs[j]? = some f → ∃ (u : Value) (y : DataW H × List MemPlace) (m : Nat), cs[j]? = some u ∧ DataW.trod enc P W b2 (fun _ => true) true m f.type [u] = some y) := by
      intro i
      by_cases hil : i < len
      · obtain ⟨cs', hc, ht'⟩ := hi i (by omega)
        rw [hC] at hc
        obtain ⟨ys, n', _, _, hlen, hyl, hfs⟩ := DataW.trod_struct he ht'
        obtain ⟨_, hcl, hat⟩ := World.cells?_some hc
        refine ⟨cs', fun _ => ⟨hcl, fun j hj => ?_, fun j f hj => ?_⟩⟩
        · rw [← hat j hj, Go.Deep.add_add]
        · have hjl : j < fs.size := (Array.getElem?_eq_some_iff.1 hj).1
          obtain ⟨ho, hk⟩ := Go.Deep.hone_of hone j f hj
          have h1 := hfs j f hj
          have hjc : j < cs'.length := by omega
          rw [ho, hk, List.drop_eq_getElem_cons hjc, List.take_succ_cons, List.take_zero, List.getElem?_eq_getElem (by omega)] at h1
          exact ⟨_, _, _, List.getElem?_eq_getElem hjc, h1⟩
      · exact ⟨[], fun h => absurd h hil⟩
    refine ⟨len, fun i => Classical.choose (hch i), ⟨.inr ⟨a, cap, rfl, fun i hil j hj => ((Classical.choose_spec (hch i)) hil).2.1 j hj⟩, by omega, fun i hil => ((Classical.choose_spec (hch i)) hil).1⟩, fun i hil => ((Classical.choose_spec (hch i)) hil).2.2⟩

/-- An act of a row of calls. -/
structure Deed where
  kd : Int
  fr : Int
  to : Int
  by_ : ByteArray
  at_ : Int
  pl : Int
  ms : Int
def Deed.cells (x : Deed) : List Value := [.int .i64 x.kd, .int .i64 x.fr, .int .i64 x.to, .string x.by_, .int .i64 x.at_, .int .i64 x.pl, .int .i64 x.ms]
def Deed.ok (x : Deed) : Prop := x.by_.size ≤ maxLen ∧ -9223372036854775808 ≤ x.fr ∧ x.fr ≤ 9223372036854775807 ∧ -9223372036854775808 ≤ x.to ∧ x.to ≤ 9223372036854775807
def Deed.none : Deed := ⟨0, 0, 0, ByteArray.empty, 0, 0, 0⟩
/-- v is a slice of the acts xs. -/
def ActsAt (w : World) (v : Value) (xs : List Deed) : Prop := RowsAt w v 7 xs.length (fun i => (xs.getD i Deed.none).cells) ∧ ∀ x ∈ xs, x.ok
theorem acts_of {H : Type} {enc : TypeId × Value → H} {W : World} {base b2 : Nat} {v : Value} {d : DataW H} {p : List MemPlace}
    (hval : Value.okWide Try.prog W .any base 37 v) (h : DataW.Trod enc Try.prog W b2 (fun _ => true) true 37 v d p) : ∃ xs, ActsAt W v xs := by
  obtain ⟨n, C, hR, hC⟩ := rows_of Try.underlying37 Try.underlying46 (by kernel_rfl) (by kernel_rfl) hval h
  have hch : ∀ i, ∃ x : Deed, i < n → C i = x.cells ∧ x.ok := by
    intro i
    by_cases hi : i < n
    · have hw := hR.wide i hi
      have hf := hC i hi
      obtain ⟨u0, y0, m0, e0, r0⟩ := hf 0 _ rfl
      obtain ⟨u1, y1, m1, e1, r1⟩ := hf 1 _ rfl
      obtain ⟨u2, y2, m2, e2, r2⟩ := hf 2 _ rfl
      obtain ⟨u3, y3, m3, e3, r3⟩ := hf 3 _ rfl
      obtain ⟨u4, y4, m4, e4, r4⟩ := hf 4 _ rfl
      obtain ⟨u5, y5, m5, e5, r5⟩ := hf 5 _ rfl
      obtain ⟨u6, y6, m6, e6, r6⟩ := hf 6 _ rfl
      obtain ⟨k0, g0, _, _⟩ := DataW.trod_int Try.underlying3 r0
      obtain ⟨k1, g1, _, w1⟩ := DataW.trod_int Try.underlying3 r1
      obtain ⟨k2, g2, _, w2⟩ := DataW.trod_int Try.underlying3 r2
      obtain ⟨k3, g3, _, w3⟩ := DataW.trod_string Try.underlying9 r3
      obtain ⟨k4, g4, _, _⟩ := DataW.trod_int Try.underlying3 r4
      obtain ⟨k5, g5, _, _⟩ := DataW.trod_int Try.underlying3 r5
      obtain ⟨k6, g6, _, _⟩ := DataW.trod_int Try.underlying3 r6
      simp only [List.cons.injEq, and_true] at g0 g1 g2 g3 g4 g5 g6
      subst g0 g1 g2 g3 g4 g5 g6
      have b1 : -9223372036854775808 ≤ k1 ∧ k1 ≤ 9223372036854775807 := by simpa [Lit.wf, IntKind.min, IntKind.max, IntKind.signed, IntKind.bits] using w1
      have b2 : -9223372036854775808 ≤ k2 ∧ k2 ≤ 9223372036854775807 := by simpa [Lit.wf, IntKind.min, IntKind.max, IntKind.signed, IntKind.bits] using w2
      refine ⟨⟨k0, k1, k2, k3, k4, k5, k6⟩, fun _ => ⟨?_, w3, b1.1, b1.2, b2.1, b2.2⟩⟩
      generalize C i = L at *
      match L, hw with
      | [c0, c1, c2, c3, c4, c5, c6], _ =>
        simp at e0 e1 e2 e3 e4 e5 e6
        subst e0 e1 e2 e3 e4 e5 e6
        rfl
    · exact ⟨Deed.none, fun h => absurd h hi⟩
  have hL : ((List.range n).map fun i => Classical.choose (hch i)).length = n := by simp
  have hg : ∀ i, i < n → ((List.range n).map fun i => Classical.choose (hch i)).getD i Deed.none = Classical.choose (hch i) := by
    intro i hi
    simp [hi]
  refine ⟨(List.range n).map fun i => Classical.choose (hch i), ⟨?_, ?_, ?_⟩, ?_⟩
  · rw [hL]
    rcases hR.form with h | ⟨a, cap, hv, hc⟩
    · exact .inl h
    · refine .inr ⟨a, cap, hv, fun i hi j hj => ?_⟩
      rw [hg i hi, ← ((Classical.choose_spec (hch i)) hi).1]
      exact hc i hi j hj
  · rw [hL]; exact hR.le
  · intro i hi
    rfl
  · intro x hx
    obtain ⟨i, hi, rfl⟩ := List.mem_map.1 hx
    exact ((Classical.choose_spec (hch i)) (List.mem_range.1 hi)).2
end Go.Proofs.Ytfjihepjeafpmaa
