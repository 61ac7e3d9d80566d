/- awake: it says true. -/
import Derived.Test.YtijiggolphppbaaGreatDoorKG
import Derived.Test.YtijiggolphppbaaGreatDoorKR0
import Derived.Test.YtijiggolphppbaaGreatDoorKR1
import Derived.Test.YtijiggolphppbaaGreatDoorKR2
import Derived.Test.YtijiggolphppbaaGreatDoorKR3
import Derived.Test.YtijiggolphppbaaGreatDoorKR4
import Derived.Test.YtijiggolphppbaaGreatDoorKR5
import Derived.Test.YtijiggolphppbaaGreatDoorKR6
import Derived.Test.YtijiggolphppbaaGreatDoorKRA
namespace Go.Proofs.YtijiggolphppbaaGreatDoor
open Go.RowKit Go.Proofs.YtijiggolphppbaaGreatDoor.Ev
theorem memos3 : MemosOk Tryz.prog Words [m3] := ⟨runB_ok prg run3, trivial⟩
theorem prg3 : PrgR Tryz.prog (withMemos g [m3]) Words := prg.memos memos3
theorem memosA : MemosOk Tryz.prog Words [m0, m1, m2, m4, m5, m6] :=
  ⟨runB_ok prg3 run0, runB_ok prg3 run1, runB_ok prg3 run2, runB_ok prg3 run4, runB_ok prg3 run5, runB_ok prg3 run6, trivial⟩
theorem prgA : PrgR Tryz.prog (withMemos (withMemos g [m3]) [m0, m1, m2, m4, m5, m6]) Words := prg3.memos memosA
theorem awake_out : ∃ σ', CallOut Tryz.prog Words 4 [] ⟨.leaf, 7⟩ (.bool true) σ' := by
  have h := runA
  generalize hc : call (withMemos (withMemos g [m3]) [m0, m1, m2, m4, m5, m6]) 1000000 4 [] ⟨.leaf, 7⟩ = r at h
  match r, h with
  | some (.bool true, σ'), _ => exact ⟨σ', call_ok prgA _ _ _ _ _ _ hc⟩
theorem awake_any (w : World) (hJ : Words w) : Calls Tryz.prog 4 #[] w fun e w' => e = .returned (.bool true) ∧ Below w.heap.size w w' := by
  obtain ⟨σ', h⟩ := awake_out
  rcases h (Cx.none w) w #[] hJ .nil (Sim.nothing w (by unfold MX; omega)) with ⟨v, w', c', h1, _⟩ | ⟨_, h2⟩
  · rw [enters_of Tryz.func4 (by kernel_rfl) rfl] at h1
    cases h1
  · refine h2.mono ?_
    rintro e w' ⟨v, c', rfl, hp, hv⟩
    cases hv
    exact ⟨rfl, hp.os, hp.tape, hp.output, hp.size, fun b hb => hp.block b hb (fun n o hd => hd.elim)⟩
end Go.Proofs.YtijiggolphppbaaGreatDoor
