/- Texts of the proof, one behind the other: apiarylaw09.awake walked: the document's examples. -/
import Derived.Test.YthglfmacjoecgaaGreatDoorMh30
import Derived.Test.YthglfmacjoecgaaGreatDoorMh20
namespace Go.Proofs.YthglfmacjoecgaaGreatDoor
open Go.RowKit

section
variable {P : Program} {w : World} {ops : Array Oper} {rest : List Oper} {o : Oper} {a : Act} {Q : Exit → Act → World → Prop}
end
end Go.Proofs.YthglfmacjoecgaaGreatDoor
