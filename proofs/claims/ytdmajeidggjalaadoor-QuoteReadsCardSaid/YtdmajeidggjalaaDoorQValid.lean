/- quote.Valid and quote.Runes; and the reference's Parts, Valid, Cut. -/
import Derived.Test.YtdmajeidggjalaaDoorChecked
import Derived.Test.YtdmajeidggjalaaDoorLaws
import Derived.Lib.ValidU
import Derived.Test.YtdmajeidggjalaaDoorShelf
import Derived.Test.YtdmajeidggjalaaDoorShelfV
import Derived.Test.YtdmajeidggjalaaDoorQParts
namespace Go.Proofs.YtdmajeidggjalaaDoor
open Go Go.RowKit

/-- The two tables of utf8, as their initialisers lay them. -/
def Tabs (w : World) : Prop := Lib.Utf8Tabs 0 1 w
theorem Tabs.below {w w' : World} {B : Nat} (h : Tabs w) (k : Below B w w') (hB : w.heap.size ≤ B) : Tabs w' := Utf8Tabs_below h (k.mono hB)
theorem Tabs.kept {w w' : World} (h : Tabs w) (k : Kp [] w w') : Tabs w' := Utf8Tabs_below h k.below
def validS (s : ByteArray) : Bool := Lib.validD s.data.toList
theorem valid_any (w : World) (s : ByteArray) (hs : s.size ≤ 9223372036854775807) (hT : Tabs w) :
    Calls Tryd.prog 29 #[.string s] w fun e w' => e = .returned (.bool (validS s)) ∧ Kp [] w w' := by
  have h : Calls Tryd.prog 29 #[.string s] w _ := Any.utf8_ValidString laysValid s w hs hT
  exact h.mono fun e w' ⟨h1, h2⟩ => ⟨h1, Kp.of_below h2⟩
theorem qvalid_any (w : World) (s : ByteArray) (hs : s.size ≤ 9223372036854775807) (hT : Tabs w) :
    Calls Tryd.prog 13 #[.string s] w fun e w' => e = .returned (.bool (validS s)) ∧ Kp [] w w' := by
  go_enter Tryd.func13, Tryd.ntmps13
  go_wp2_with fail
  refine (valid_any _ s hs hT).mono ?_
  rintro e w1 ⟨rfl, hk⟩
  go_wp2_with fail
  go_ret
  exact ⟨rfl, hk⟩
theorem qrunes_any (w : World) (s : ByteArray) (hs : s.size < 9223372036854775807) :
    Calls Tryd.prog 15 #[.string s] w fun e w' => e = .returned (.int .i64 ((partsL s.data.toList).length : Int)) ∧ Kp [] w w' := by
  go_enter Tryd.func15, Tryd.ntmps15
  go_wp2_with fail
  refine (Tryd.utf8_RuneCountInString s w hs).mono ?_
  rintro e w1 ⟨rfl, p, rfl⟩
  go_wp2_with fail
  go_ret
  exact ⟨by rw [runeCount_parts]; rfl, (Kp.refl [] w).alloc _⟩
end Go.Proofs.YtdmajeidggjalaaDoor
