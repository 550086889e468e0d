/- The document's examples at the head of layer 17's statements: they answer true. -/
import Derived.Test.YtepeopfdenieeaaDoorPut
namespace Go.Proofs.YtepeopfdenieeaaDoor
open Go Go.RowKit

def YesPost (w : World) (e : Ending) (w' : World) : Prop := e = .returned (.bool true) ∧ Kp [] w w'
theorem length_putB (r : Rec) : (putB r).length = 22 + (holesL r.holes).length := by
  rw [putB, headL, bodyL, List.length_append, List.length_append, List.length_append, List.length_append, List.length_reverse, length_be, length_be, length_be, length_numsL]
  omega

set_option maxRecDepth 100000 in
set_option maxHeartbeats 400000 in
theorem shown_any (w : World) (hT : Tabs w) : Calls Tryd.prog 13 #[] w (YesPost w) := by
  have kc := fun (w : World) (C : Array Value) (n c : Nat) => Lib.run_convert_bytes_const (P := Tryd.prog) w 25 5 C n c Tryd.underlying25 Tryd.underlying5
  go_enter Tryd.func13, Tryd.ntmps13
  go_wp2_with fail
  refine (put_any w ⟨0, 0, 0, []⟩ _ ⟨none, 0, rfl, Span.nil _ _, by simp, by omega⟩ hT (by simp)).mono ?_
  rintro e w1 ⟨v, rfl, ho, hnw⟩
  have hm : mayOf ⟨0, 0, 0, []⟩ = 0 := by decide
  have hl : (putL ⟨0, 0, 0, []⟩).length = 22 := by rw [putL, if_pos hm, length_putB]; rfl
  obtain ⟨A, c, rfl, -, -, -⟩ := ho.shape
  rw [hm, hl]
  go_wp2_with fail
  refine (sum_any _ _ 9 9 [49, 50, 51, 52, 53, 54, 55, 56, 57] (by exact Span.of_new w1 _ _ (u8s [49, 50, 51, 52, 53, 54, 55, 56, 57])) rfl (by omega) (by omega)).mono ?_
  rintro e w2 ⟨rfl, rfl⟩
  have hs : crcSum [49, 50, 51, 52, 53, 54, 55, 56, 57] = 3421780262 := by decide +kernel
  rw [hs]
  go_wp2_with fail
  go_ret
  exact ⟨rfl, hnw.kp.alloc _⟩
end Go.Proofs.YtepeopfdenieeaaDoor
