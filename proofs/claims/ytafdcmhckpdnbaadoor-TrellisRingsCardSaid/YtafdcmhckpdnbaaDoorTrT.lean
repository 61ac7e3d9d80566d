/- The witness's world: the row's two tables laid. -/
import Derived.Test.YtafdcmhckpdnbaaDoorOpen
import Derived.Test.YtafdcmhckpdnbaaDoorCards
import Derived.Test.YtafdcmhckpdnbaaDoorTie
import Derived.Test.YtafdcmhckpdnbaaDoorReC
import Derived.Deep.DeepHandedRow
import Derived.LaidSub
import Derived.Lib.LaidTab
namespace Go.Proofs.YtafdcmhckpdnbaaDoor
open Go.ChangeShapes Go.WideShapes Go.ChangeAt Go.RowKit

def tabA : List Int := [128, 191, 160, 191, 128, 159, 144, 191, 128, 143, 0, 0, 0, 0, 0, 0, 0, 0, 0, 0, 0, 0, 0, 0, 0, 0, 0, 0, 0, 0, 0, 0]
def tabF : List Int := List.replicate 128 240 ++ List.replicate 66 241 ++ List.replicate 30 2 ++ [19] ++ List.replicate 12 3 ++ [35] ++ List.replicate 2 3 ++ [52] ++ List.replicate 3 4 ++ [68] ++ List.replicate 11 241
def cellsOfTab (k : IntKind) (zs : List Int) : Array Value := (zs.map fun z => Value.int k z).toArray
def setTab (k : IntKind) (zs : List Int) : Obj → Obj
  | .cells _ t fr => .cells (cellsOfTab k zs) t fr
  | o => o
noncomputable def laidW (os : Os) : World :=
  { World.holding Tryd.prog os ⟨#[], #[], []⟩ with heap := ((World.holding Tryd.prog os ⟨#[], #[], []⟩).heap.modify 2 (setTab .u8 tabA)).modify 1 (setTab .u8 tabF) }
end Go.Proofs.YtafdcmhckpdnbaaDoor
