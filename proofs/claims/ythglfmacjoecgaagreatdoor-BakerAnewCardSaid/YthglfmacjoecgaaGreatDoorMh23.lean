/- Texts of the proof, one behind the other: apiaryref06.step, a theorem a letter (printed by genr.py): p i t k l h r; what is none. -/
import Derived.Test.YthglfmacjoecgaaGreatDoorMh22
import Derived.Test.YthglfmacjoecgaaGreatDoorMh12
namespace Go.Proofs.YthglfmacjoecgaaGreatDoor
open Go.RowKit

end Go.Proofs.YthglfmacjoecgaaGreatDoor
