/- slices.Reverse at []byte, slices.ContainsFunc at []string: the kit's contracts laid here. -/
import Derived.Shelf.SlicesE.Reverse
import Derived.Shelf.SlicesE.IndexFunc
import Derived.Test.YtegappcdmaodjaaDoorProg
import Derived.Test.YtegappcdmaodjaaDoorBase
namespace Go.Proofs.YtegappcdmaodjaaDoor
open Go.Shelf Go.RowKit Go.Lib
def Tryd.rev_ren : Go.Shelf.Ren := ⟨fun | 35 => 45 | n => n, fun | 22 => 35 | 23 => 5 | 3 => 3 | 4 => 4 | n => n, fun | n => n⟩
theorem Tryd.rev_lays : SlLaysE.n35 Tryd.prog Tryd.rev_ren := {
  mixed := by kernel_rfl
  f35 := ⟨Tryd.f45.name, by decide, Tryd.func45.trans (congrArg some (by kernel_rfl))⟩
  t0 := Tryd.underlying0
  a0 := Tryd.isAgg0
  z0 := Tryd.sizeOf0
  v0 := Tryd.zeroValue0
  t3 := Tryd.underlying3
  a3 := Tryd.isAgg3
  z3 := Tryd.sizeOf3
  v3 := Tryd.zeroValue3
  t4 := Tryd.underlying4
  a4 := Tryd.isAgg4
  z4 := Tryd.sizeOf4
  v4 := Tryd.zeroValue4
  t22 := Tryd.underlying35
  a22 := Tryd.isAgg35
  z22 := Tryd.sizeOf35
  v22 := Tryd.zeroValue35
  a23 := Tryd.isAgg5
  z23 := Tryd.sizeOf5
}
def Tryd.cf_ren : Go.Shelf.Ren := ⟨fun | 6 => 27 | 8 => 17 | n => n, fun | 22 => 22 | 23 => 9 | 25 => 34 | 3 => 3 | 4 => 4 | n => n, fun | n => n⟩
theorem Tryd.cf_lays : SlLaysH.n8 Tryd.prog Tryd.cf_ren := {
  mixed := by kernel_rfl
  f6 := ⟨Tryd.f27.name, by decide, Tryd.func27.trans (congrArg some (by kernel_rfl))⟩
  f8 := ⟨Tryd.f17.name, by decide, Tryd.func17.trans (congrArg some (by kernel_rfl))⟩
  t0 := Tryd.underlying0
  a0 := Tryd.isAgg0
  z0 := Tryd.sizeOf0
  v0 := Tryd.zeroValue0
  t3 := Tryd.underlying3
  a3 := Tryd.isAgg3
  z3 := Tryd.sizeOf3
  v3 := Tryd.zeroValue3
  t4 := Tryd.underlying4
  a4 := Tryd.isAgg4
  z4 := Tryd.sizeOf4
  v4 := Tryd.zeroValue4
  t22 := Tryd.underlying22
  a22 := Tryd.isAgg22
  z22 := Tryd.sizeOf22
  v22 := Tryd.zeroValue22
  a23 := Tryd.isAgg9
  z23 := Tryd.sizeOf9
  t25 := Tryd.underlying34
  a25 := Tryd.isAgg34
  z25 := Tryd.sizeOf34
  v25 := Tryd.zeroValue34
}
end Go.Proofs.YtegappcdmaodjaaDoor
