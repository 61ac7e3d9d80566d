/- Texts of the proof, one behind the other: apiaryref09.Key walked; apiaryref06.digits walked: a number in decimal; apiaryref06.pop walked: how many blobs a step takes, and puts; An append of what lies elsewhere; a row of texts; apiaryref06.step: the rest of a stack, laid anew; an append to it. -/
import Derived.Test.YthglfmacjoecgaaGreatDoorMh20
import Derived.Test.YthglfmacjoecgaaGreatDoorMh15
import Derived.Test.YthglfmacjoecgaaGreatDoorMh11
import Derived.Deep.Upon
namespace Go.Proofs.YthglfmacjoecgaaGreatDoor
open Go.RowKit

end Go.Proofs.YthglfmacjoecgaaGreatDoor
namespace Go.Proofs.YthglfmacjoecgaaGreatDoor
open Go.RowKit

end Go.Proofs.YthglfmacjoecgaaGreatDoor
namespace Go.Proofs.YthglfmacjoecgaaGreatDoor
open Go.RowKit

end Go.Proofs.YthglfmacjoecgaaGreatDoor
namespace Go.Proofs.YthglfmacjoecgaaGreatDoor
open Go.RowKit

theorem own_form {w : World} {e : TypeId} {size n : Nat} {v : Value} {xs : List Value} (h : w.ownsRow 0 e size v n xs) : ∃ oa cap, v = .slice oa n cap := by
  rcases h.2 with ⟨rfl, rfl⟩ | ⟨g, cap, cur, rfl, _⟩
  · exact ⟨none, 0, rfl⟩
  · exact ⟨_, cap, rfl⟩
end Go.Proofs.YthglfmacjoecgaaGreatDoor
namespace Go.Proofs.YthglfmacjoecgaaGreatDoor
open Go.RowKit

/-- A row of texts of the call's own, with a block. -/
def RowT (w : World) (g cap n : Nat) (l : List ByteArray) : Prop := w.ownsRow 0 9 1 (.slice (some ⟨g, 0, none⟩) n cap) n (l.map Value.string)
theorem RowT.len {w : World} {g cap n : Nat} {l : List ByteArray} (h : RowT w g cap n l) : n = l.length := by
  have := h.1; simpa using this.symm
theorem RowT.cellAt {w : World} {g cap n : Nat} {l : List ByteArray} (h : RowT w g cap n l) (i : Nat) (x : ByteArray) (hx : l[i]? = some x) : w.cell? ⟨g, i, none⟩ = some (.string x) := by
  have hi := (List.getElem?_eq_some_iff.1 hx).1
  have h2 := (World.ownsRow.cellAt h i (by rw [h.len]; omega)).trans (show (l.map Value.string)[i]? = some (.string x) by simp [hx])
  exact h2
theorem RowT.cap {w : World} {g cap n : Nat} {l : List ByteArray} (h : RowT w g cap n l) : n ≤ cap := by
  rcases h.2 with ⟨h, _⟩ | ⟨_, _, _, h, _, _, h2, _⟩
  · cases h
  · cases h; exact h2
theorem RowT.lt {w : World} {g cap n : Nat} {l : List ByteArray} (h : RowT w g cap n l) : g < w.heap.size := by
  rcases h.2 with ⟨h, _⟩ | ⟨_, _, _, h, _, h2, _⟩
  · cases h
  · cases h; exact heap_lt h2
theorem RowT.alloc {w : World} {g cap n : Nat} {l : List ByteArray} (h : RowT w g cap n l) (o : Obj) : RowT (w.alloc o) g cap n l := World.ownsRow.alloc h o
theorem RowT.chg {F : Nat → Prop} {w w' : World} {g cap n : Nat} {l : List ByteArray} (h : RowT w g cap n l) (hc : Chg F w w') (hg : ¬ F g) : RowT w' g cap n l := by
  rcases h.2 with ⟨h, _⟩ | ⟨_, _, cur, e, hb, h2, h3⟩
  · cases h
  · cases e; exact ⟨h.1, .inr ⟨g, _, cur, rfl, hb, hc.obj h2 hg, h3⟩⟩

/-- What a step leaves: a stack of its own, where it goes on. -/
def StepOk (w : World) (l : List ByteArray) (to2 : Int) (e : Ending) (w' : World) : Prop :=
  ∃ g cap, e = .returned (.tuple #[.slice (some ⟨g, 0, none⟩) l.length cap, .int .i64 to2, .int .i64 0]) ∧ RowT w' g cap l.length l ∧ Chg (fun _ => False) w w'

/-- A row laid since w0. -/
structure Fresh (w0 w : World) (g cap n : Nat) (l : List ByteArray) : Prop where
  own : RowT w g cap n l
  chg : Chg (fun k => w0.heap.size ≤ k) w0 w
  ge : w0.heap.size ≤ g
theorem Fresh.cell {w0 w : World} {g cap n : Nat} {l : List ByteArray} (h : Fresh w0 w g cap n l) {p : Addr} {v : Value} (hc : w0.cell? p = some v) (hp : ¬ w0.heap.size ≤ p.block) : w.cell? p = some v := h.chg.cell hc hp
theorem fresh_chg {w w' : World} (h : Chg (fun k => w.heap.size ≤ k) w w') : Chg (fun _ => False) w w' := (Chg.refl _ w).trans h (fun i hi h => by omega)
theorem Fresh.ok {w0 w : World} {g cap n : Nat} {l : List ByteArray} (h : Fresh w0 w g cap n l) (to2 : Int) : StepOk w0 l to2 (.returned (.tuple #[.slice (some ⟨g, 0, none⟩) n cap, .int .i64 to2, .int .i64 0])) w := by
  have hl := h.own.len
  subst hl
  exact ⟨g, cap, rfl, h.own, fresh_chg h.chg⟩

end Go.Proofs.YthglfmacjoecgaaGreatDoor
