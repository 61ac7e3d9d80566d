/- Texts of the proof, one behind the other: apiaryref02.block walked: its words. -/
import Derived.Test.YthglfmacjoecgaaGreatDoorMh13
import Derived.Test.YthglfmacjoecgaaGreatDoorMh01
import Derived.BigQuiet
import Derived.Deep.RegionHeld3
namespace Go.Proofs.YthglfmacjoecgaaGreatDoor
open Go.RowKit

section
variable {P : Program} {w : World} {ops : Array Oper} {rest : List Oper} {o : Oper} {a : Act} {Q : Exit → Act → World → Prop}
end
end Go.Proofs.YthglfmacjoecgaaGreatDoor
