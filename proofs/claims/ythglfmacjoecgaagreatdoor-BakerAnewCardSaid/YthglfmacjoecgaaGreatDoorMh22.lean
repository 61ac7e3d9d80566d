/- Texts of the proof, one behind the other: apiaryref06.step, a theorem a letter (printed by genr.py): c d s = x j g. -/
import Derived.Test.YthglfmacjoecgaaGreatDoorMh21
namespace Go.Proofs.YthglfmacjoecgaaGreatDoor
open Go.RowKit

end Go.Proofs.YthglfmacjoecgaaGreatDoor
