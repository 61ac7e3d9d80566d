/- Texts of the proof, one behind the other: apiarylaw09.awake walked: the document's examples. -/
import Derived.Test.YthglfmacjoecgaaGreatDoorMx12
import Derived.Test.YthglfmacjoecgaaGreatDoorMx06
namespace Go.Proofs.YthglfmacjoecgaaGreatDoor
open Go.RowKit

section
variable {P : Program} {w : World} {ops : Array Oper} {rest : List Oper} {o : Oper} {a : Act} {Q : Exit → Act → World → Prop}
end
end Go.Proofs.YthglfmacjoecgaaGreatDoor
