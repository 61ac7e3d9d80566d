/- Texts of the proof, one behind the other: apiaryref07.Code walked; apiaryref07.good walked. -/
import Derived.Test.YthglfmacjoecgaaGreatDoorMh18
namespace Go.Proofs.YthglfmacjoecgaaGreatDoor
open Go.RowKit

end Go.Proofs.YthglfmacjoecgaaGreatDoor
namespace Go.Proofs.YthglfmacjoecgaaGreatDoor
open Go.RowKit

end Go.Proofs.YthglfmacjoecgaaGreatDoor
