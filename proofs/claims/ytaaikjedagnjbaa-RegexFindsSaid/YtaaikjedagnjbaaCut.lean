/- Laws for the walk: cuts of slices, without parting the walk at the capacity's end. Over any program. (A text that imports this one sees 's[k:]' as cutA.) -/
import Derived.Test.YtaaikjedagnjbaaLaws
namespace Go.Proofs.Ytaaikjedagnjbaa
open Go Go.RowKit

/-- Where a cut begins: at the capacity's end the old address stands. -/
def cutA (a : Option Addr) (l m s : Nat) : Option Addr := if m = l then a else a.map (·.add (l * s))
@[go_sem high] theorem cutA_zero (a : Option Addr) (m s : Nat) : cutA a 0 m s = a := by
  unfold cutA
  split
  · rfl
  · cases a <;> simp [Addr.add]
@[go_sem ↓ high] theorem sliced_cut (a : Option Addr) (l h m s : Nat) : sliced a l h m s = .slice (cutA a l m s) (h - l) (m - l) := rfl
theorem Span.cut {w : World} {A : Option Addr} {xs : List Value} (h : Span w A xs) (k : Nat) {cap : Nat} (hc : xs.length ≤ cap) : Span w (cutA A k cap 1) (xs.drop k) := by
  have := h.drop (k := k) hc
  unfold cutA
  simpa using this
theorem Span.cut2 {w : World} {A : Option Addr} {xs : List Value} (h : Span w A xs) (k m : Nat) {cap : Nat} (hc : xs.length ≤ cap) : Span w (cutA A k cap 1) ((xs.drop k).take m) := (h.cut k hc).take m
theorem Span.cut8 {w : World} {A : Option Addr} {l : List UInt8} (h : Span w A (u8s l)) (k : Nat) {cap : Nat} (hc : l.length ≤ cap) : Span w (cutA A k cap 1) (u8s (l.drop k)) := by
  rw [u8s_drop]
  exact h.cut k (by rw [length_u8s]; exact hc)
theorem Span.cut28 {w : World} {A : Option Addr} {l : List UInt8} (h : Span w A (u8s l)) (k m : Nat) {cap : Nat} (hc : l.length ≤ cap) : Span w (cutA A k cap 1) (u8s ((l.drop k).take m)) := by
  rw [u8s_take]
  exact (h.cut8 k hc).take m
theorem Span.take8 {w : World} {A : Option Addr} {l : List UInt8} (h : Span w A (u8s l)) (m : Nat) : Span w A (u8s (l.take m)) := by
  rw [u8s_take]
  exact h.take m
end Go.Proofs.Ytaaikjedagnjbaa
