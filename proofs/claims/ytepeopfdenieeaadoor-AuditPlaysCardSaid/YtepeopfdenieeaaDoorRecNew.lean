/- A record that a call has made. -/
import Derived.Test.YtepeopfdenieeaaDoorMay
namespace Go.Proofs.YtepeopfdenieeaaDoor
open Go Go.RowKit

/-- A record as a value, its holes in no block that was there. -/
def RecNew (w w' : World) (r : Rec) (v : Value) : Prop :=
  ∃ A c, v = .agg #[.int .i64 r.doc, .int .i64 r.out, .int .i64 r.len, .slice A r.holes.length c] ∧ Span w' A (r.holes.map .string) ∧ r.holes.length ≤ c ∧ c ≤ 9223372036854775807 ∧ ∀ ad, A = some ad → w.heap.size ≤ ad.block
theorem RecNew.is {w w' : World} {r : Rec} {v : Value} (h : RecNew w w' r v) : RecIs w' r v := by
  obtain ⟨A, c, h1, h2, h3, h4, _⟩ := h
  exact ⟨A, c, h1, h2, h3, h4⟩
end Go.Proofs.YtepeopfdenieeaaDoor
