/- quote.Valid and quote.Runes; and the reference's Parts, Valid, Cut. -/
import Derived.Test.YtgjffkblhhkjmaaDoorChecked
import Derived.Test.YtgjffkblhhkjmaaDoorLaws
import Derived.Lib.ValidU
import Derived.Test.YtgjffkblhhkjmaaDoorShelf
import Derived.Test.YtgjffkblhhkjmaaDoorShelfV
import Derived.Test.YtgjffkblhhkjmaaDoorQParts
namespace Go.Proofs.YtgjffkblhhkjmaaDoor
open Go Go.RowKit

/-- The two tables of utf8, as their initialisers lay them. -/
def Tabs (w : World) : Prop := Lib.Utf8Tabs 1 2 w
theorem Tabs.below {w w' : World} {B : Nat} (h : Tabs w) (k : Below B w w') (hB : w.heap.size ≤ B) : Tabs w' := Utf8Tabs_below h (k.mono hB)
theorem Tabs.kept {w w' : World} (h : Tabs w) (k : Kp [] w w') : Tabs w' := Utf8Tabs_below h k.below
def validS (s : ByteArray) : Bool := Lib.validD s.data.toList
end Go.Proofs.YtgjffkblhhkjmaaDoor
