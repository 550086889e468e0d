/- Cmp of layer 1. -/
import Derived.Test.YtampgimmodomoaaGreatDoorDAlign
import Derived.Test.YtampgimmodomoaaGreatDoorDVals
import Derived.Test.YtampgimmodomoaaGreatDoorDPlain
namespace Go.Proofs.YtampgimmodomoaaGreatDoor
open Go Go.RowKit Go.Lib

end Go.Proofs.YtampgimmodomoaaGreatDoor
