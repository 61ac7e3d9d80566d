/- The rows' tables: what a world that holds them gives; the witness's world; no function starts a goroutine. -/
import Derived.Test.YtijiggolphppbaaGreatDoorOpen
import Derived.Test.YtijiggolphppbaaGreatDoorCards
import Derived.Test.YtijiggolphppbaaGreatDoorTie
import Derived.Test.YtijiggolphppbaaGreatDoorKZ
import Derived.Deep.DeepHandedRow
import Derived.LaidSub
import Derived.Lib.LaidTab
namespace Go.Proofs.YtijiggolphppbaaGreatDoor
open Go.ChangeShapes Go.WideShapes Go.ChangeAt Go.RowKit

def tab0 : List Int := [0, 1, 28, 2, 29, 14, 24, 3, 30, 22, 20, 15, 25, 17, 4, 8, 31, 27, 13, 23, 21, 19, 16, 7, 26, 12, 18, 6, 11, 5, 10, 9]
def tab1 : List Int := [0, 1, 56, 2, 57, 49, 28, 3, 61, 58, 42, 50, 38, 29, 17, 4, 62, 47, 59, 36, 45, 43, 51, 22, 53, 39, 33, 30, 24, 18, 12, 5, 63, 55, 48, 27, 60, 41, 37, 16, 46, 35, 44, 21, 52, 32, 23, 11, 54, 26, 40, 15, 34, 20, 31, 10, 25, 14, 19, 9, 13, 8, 7, 6]
def tab2 : List Int := [1, 10, 100, 1000, 10000, 100000, 1000000, 10000000, 100000000, 1000000000, 10000000000, 100000000000, 1000000000000, 10000000000000, 100000000000000, 1000000000000000, 10000000000000000, 100000000000000000, 1000000000000000000, 10000000000000000000]
def tab3 : List Int := [128, 191, 160, 191, 128, 159, 144, 191, 128, 143, 0, 0, 0, 0, 0, 0, 0, 0, 0, 0, 0, 0, 0, 0, 0, 0, 0, 0, 0, 0, 0, 0]
def tab4 : List Int := [1116352408, 1899447441, 3049323471, 3921009573, 961987163, 1508970993, 2453635748, 2870763221, 3624381080, 310598401, 607225278, 1426881987, 1925078388, 2162078206, 2614888103, 3248222580, 3835390401, 4022224774, 264347078, 604807628, 770255983, 1249150122, 1555081692, 1996064986, 2554220882, 2821834349, 2952996808, 3210313671, 3336571891, 3584528711, 113926993, 338241895, 666307205, 773529912, 1294757372, 1396182291, 1695183700, 1986661051, 2177026350, 2456956037, 2730485921, 2820302411, 3259730800, 3345764771, 3516065817, 3600352804, 4094571909, 275423344, 430227734, 506948616, 659060556, 883997877, 958139571, 1322822218, 1537002063, 1747873779, 1955562222, 2024104815, 2227730452, 2361852424, 2428436474, 2756734187, 3204031479, 3329325298]
def tab5 : List Int := List.replicate 128 240 ++ List.replicate 66 241 ++ List.replicate 30 2 ++ [19] ++ List.replicate 12 3 ++ [35] ++ List.replicate 2 3 ++ [52] ++ List.replicate 3 4 ++ [68] ++ List.replicate 11 241
def cellsOfTab (k : IntKind) (zs : List Int) : Array Value := (zs.map fun z => Value.int k z).toArray
def setTab (k : IntKind) (zs : List Int) : Obj → Obj
  | .cells _ t fr => .cells (cellsOfTab k zs) t fr
  | o => o
noncomputable def laidW (os : Os) : World :=
  { World.holding Tryz.prog os ⟨#[], #[], []⟩ with heap := (((((((World.holding Tryz.prog os ⟨#[], #[], []⟩).heap.modify 3 (setTab .u8 tab0)).modify 4 (setTab .u8 tab1)).modify 2 (setTab .u64 tab2)).modify 6 (setTab .u8 tab3)).modify 0 (setTab .u32 tab4)).modify 5 (setTab .u8 tab5)) }
theorem laid_wds {W : World} (h : laidMetH Tryz.prog Rows.beeNilRow.laid W) : Lib.TabIs Tryz.prog W "apiary/stamp.words" .u32 tab4 := by
  have h1 : laidMet Tryz.prog [("apiary/stamp.words", Lib.tabData .u32 tab4)] W := h.filter (fun x => x.1 == "apiary/stamp.words")
  exact Lib.tabIs_of_head (rest := []) (t := 422) (e := 345) (n := 64) wdG (by kernel_rfl) (by kernel_rfl) (by kernel_rfl) (by kernel_rfl) (by kernel_rfl) h1
theorem words_of {W : World} (h : laidMetH Tryz.prog Rows.beeNilRow.laid W) : Words W :=
  ⟨laid_wds h, World.block_lt_of_cell? W ⟨gWd, 0, none⟩ ((laid_wds h).cell wdG 0 (by decide))⟩
theorem no_goes {P : Program} (h : P.funcs.toList.all (fun f => !f.goes) = true) (c : OpenClaim) (hs : c.start = .entering) : false = c.goesBy P := by
  have h0 : ∀ (i : Nat) (f : Func), P.funcs[i]? = some f → f.goes = false := fun i f hf => by
    have := List.all_eq_true.1 h f (Array.mem_toList_iff.2 (Array.mem_of_getElem? hf))
    simpa using this
  have h1 : ∀ f, P.goes f = false := fun f => by
    unfold Program.goes
    have a1 : ((P.closure f).any fun g => (P.funcs[g]?).any Func.goes) = false := by
      rw [List.any_eq_false]
      intro g _
      cases hg : P.funcs[g]? with
      | none => simp
      | some fn => simp [h0 g fn hg]
    have a2 : P.funcs.any Func.goes = false := by
      rw [Array.any_eq_false]
      intro i hi
      have := h0 i P.funcs[i] (by simp)
      simp [this]
    rw [a1, a2]
    simp
  unfold OpenClaim.goesBy Program.goesAt Program.goesFrom
  rw [hs]
  cases P.funcNamed c.func with
  | none => rfl
  | some f => simp [h1]
theorem none_goes : Tryz.prog.funcs.toList.all (fun f => !f.goes) = true := by kernel_rfl
end Go.Proofs.YtijiggolphppbaaGreatDoor
