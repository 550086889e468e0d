/- The document's answer for layer 1: a whole number. -/
import Derived.Test.YtampgimmodomoaaGreatDoorDRPlus
import Derived.Test.YtampgimmodomoaaGreatDoorDReads
import Derived.Test.YtampgimmodomoaaGreatDoorDSym
namespace Go.Proofs.YtampgimmodomoaaGreatDoor
open Go Go.RowKit Go.Lib

end Go.Proofs.YtampgimmodomoaaGreatDoor
