/- Texts of the proof, one behind the other: apiaryref02.turn walked; words turned and joined, in plain words. -/
import Derived.Test.YthglfmacjoecgaaGreatDoorMh03
namespace Go.Proofs.YthglfmacjoecgaaGreatDoor
open Go.RowKit

end Go.Proofs.YthglfmacjoecgaaGreatDoor
