/- The document's example at the head of layer 18's statements: it answers true. -/
import Derived.Test.YtepeopfdenieeaaBytes
namespace Go.Proofs.Ytepeopfdenieeaa
open Go Go.RowKit

def YesPost (w : World) (e : Ending) (w' : World) : Prop := e = .returned (.bool true) ∧ Kp [] w w'

set_option maxHeartbeats 400000 in
theorem shown_any (w : World) : Calls Try.prog 6 #[] w (YesPost w) := by
  have kc := fun (w : World) (C : Array Value) (n c : Nat) => Lib.run_convert_bytes_const (P := Try.prog) w 22 5 C n c Try.underlying22 Try.underlying5
  go_enter Try.func6, Try.ntmps6
  go_wp2_with fail
  refine (new_any _ 5 4).mono ?_
  rintro e w1 ⟨rfl, hs1, hk1⟩
  have Hs1 := hid hs1
  clear hs1
  go_wp2_with fail
  refine (write_any _ w.heap.size _ _ 3 3 [97, 98, 99] (by exact Hs1.out.kept ((Kp.refl _ _).alloc _)) (by exact Span.of_new w1 _ _ (u8s [97, 98, 99])) ?_ rfl (by omega) (by decide) (by decide) (by decide) (by decide)).mono ?_
  · intro ad h
    injection h with h
    subst h
    obtain ⟨R, hc, _⟩ := Hs1.out
    exact Nat.ne_of_gt hc.lt
  rintro e w2 ⟨rfl, hs2, hk2, _⟩
  have Hs2 := hid hs2
  clear hs2
  go_wp2_with fail
  refine (write_any _ w.heap.size _ _ 3 3 [100, 101, 102] (by exact Hs2.out.kept ((Kp.refl _ _).alloc _)) (by exact Span.of_new w2 _ _ (u8s [100, 101, 102])) ?_ rfl (by omega) (by decide) (by decide) (by decide) (by decide)).mono ?_
  · intro ad h
    injection h with h
    subst h
    obtain ⟨R, hc, _⟩ := Hs2.out
    exact Nat.ne_of_gt hc.lt
  rintro e w3 ⟨rfl, hs3, hk3, _⟩
  have Hs3 := hid hs3
  clear hs3
  have e1 : ((SK.make 5 4).write [97, 98, 99]).2 = (3, 0) := by decide
  have e2 : (((SK.make 5 4).write [97, 98, 99]).1.write [100, 101, 102]).2 = (1, 51) := by decide
  rw [e1, e2]
  clear e1 e2
  go_wp2_with fail
  have hs4 : SinkAt w3 w.heap.size (SK.mk [97, 98, 99, 100] 5 0 true) := Hs3.out
  have Hs4 := hid hs4
  clear hs4
  refine (bytes_any _ _ _ Hs4.out (by decide)).mono ?_
  rintro e w4 ⟨A, c, rfl, hsp, hk4, _⟩
  have hcv := run_text (P := Try.prog) Try.underlying22 Try.underlying5 Try.underlying9 hsp 4 c rfl
  go_wp2_with fail
  refine (dead_any _ _ _ (Hs4.out.kept hk4)).mono ?_
  rintro e w5 ⟨rfl, rfl⟩
  go_wp2_with fail
  go_ret
  refine ⟨rfl, ?_⟩
  exact ((((hk1.alloc _).fresh hk2 (Nat.le_refl _)).alloc _).fresh hk3 (Nat.le_refl _)).nil hk4
end Go.Proofs.Ytepeopfdenieeaa
