/- Texts of the proof, one behind the other: apiaryref06.step, a theorem a letter (printed by genr.py): p i t k l h r; what is none. -/
import Derived.Test.YthglfmacjoecgaaGreatDoorMg22
import Derived.Test.YthglfmacjoecgaaGreatDoorMg12
namespace Go.Proofs.YthglfmacjoecgaaGreatDoor
open Go.RowKit

end Go.Proofs.YthglfmacjoecgaaGreatDoor
