/- utf8.ValidString: whether a text is UTF-8. -/
import Derived.Test.YtepeopfdenieeaaDoorNumber
import Derived.Lib.ValidU
import Derived.Test.YtepeopfdenieeaaDoorShelf
namespace Go.Proofs.YtepeopfdenieeaaDoor
open Go Go.RowKit

/-- The two tables of utf8, as their initialisers lay them. -/
def Tabs (w : World) : Prop := Lib.Utf8Tabs 0 1 w
theorem Tabs.kept {w w' : World} (h : Tabs w) (k : Kp [] w w') : Tabs w' := Utf8Tabs_below h k.below
def validS (s : ByteArray) : Bool := Lib.validD s.data.toList
theorem valid_any (w : World) (s : ByteArray) (hs : s.size ≤ 9223372036854775807) (hT : Tabs w) :
    Calls Tryd.prog 56 #[.string s] w fun e w' => e = .returned (.bool (validS s)) ∧ Kp [] w w' := by
  have h : Calls Tryd.prog 56 #[.string s] w _ := Any.utf8_ValidString laysValid s w hs hT
  exact h.mono fun e w' ⟨h1, h2⟩ => ⟨h1, Kp.of_below h2⟩
theorem qvalid_any (w : World) (s : ByteArray) (hs : s.size ≤ 9223372036854775807) (hT : Tabs w) :
    Calls Tryd.prog 53 #[.string s] w fun e w' => e = .returned (.bool (validS s)) ∧ Kp [] w w' := by
  go_enter Tryd.func53, Tryd.ntmps53
  go_wp2_with fail
  refine (valid_any _ s hs hT).mono ?_
  rintro e w1 ⟨rfl, hk⟩
  go_wp2_with fail
  go_ret
  exact ⟨rfl, hk⟩
end Go.Proofs.YtepeopfdenieeaaDoor
