/- The document's example of layer 19. -/
import Derived.Test.YtepeopfdenieeaaDoorRelease
import Derived.Test.YtepeopfdenieeaaDoorShown17
namespace Go.Proofs.YtepeopfdenieeaaDoor
open Go Go.RowKit

theorem shown_release : (AK.mk (SK.make 10 (-1)) (SK.make 100 (-1)) 0).release ⟨0, 0, 3, []⟩ [97, 98, 99] = (⟨SK.make 10 (-1), SK.make 100 (-1), 50⟩, 50) := by
  have h1 : mayOf ⟨0, 0, 3, []⟩ = 0 := by decide
  have h2 : (putB ⟨0, 0, 3, []⟩).length = 22 := by rw [length_putB]; rfl
  have h3 : (SK.make 10 (-1)).write (putB ⟨0, 0, 3, []⟩) = (SK.make 10 (-1), 0, 50) := by
    unfold SK.write
    rw [if_neg (by simp [SK.make]), if_neg (by simp [SK.make]), if_pos (by rw [h2]; simp [SK.make]; omega)]
  unfold AK.release
  rw [if_neg (by simp), if_neg (by rw [h1]; simp), if_neg (by simp), h3, if_pos (by simp)]
theorem sink_pair {w w1 w2 w3 : World} {s t : SK} (h1 : SinkAt w1 w.heap.size s) (k1 : Kp [] w w1) (h2 : SinkAt w2 w1.heap.size t) (k2 : Kp [] w1 w2)
    (h3 : Cells w3 w2.heap.size 88 [.pointer (some ⟨w.heap.size, 0, none⟩), .pointer (some ⟨w1.heap.size, 0, none⟩), .int .i64 0]) (k3 : Kp [] w2 w3) :
    AuditAt w3 w2.heap.size w.heap.size w1.heap.size ⟨s, t, 0⟩ ∧ Kp [] w w3 ∧ w.heap.size < w1.heap.size ∧ w1.heap.size < w2.heap.size :=
  ⟨⟨h3, (h1.kept k2).kept k3, h2.kept k3, by have := h1.lt; omega⟩, (k1.nil k2).nil k3, h1.lt, h2.lt⟩
set_option maxRecDepth 100000 in
set_option maxHeartbeats 1000000 in
theorem shown19_any (w : World) (hT : Tabs w) : Calls Tryd.prog 24 #[] w (YesPost w) := by
  have kc := fun (w : World) (C : Array Value) (n c : Nat) => Lib.run_convert_bytes_const (P := Tryd.prog) w 25 5 C n c Tryd.underlying25 Tryd.underlying5
  go_enter Tryd.func24, Tryd.ntmps24
  go_wp2_with fail
  refine (new_any w 10 (-1)).mono ?_
  rintro e w1 ⟨rfl, h1, k1⟩
  go_wp2_with fail
  refine (new_any w1 100 (-1)).mono ?_
  rintro e w2 ⟨rfl, h2, k2⟩
  go_wp2_with fail
  refine (anew_any w2 w.heap.size w1.heap.size).mono ?_
  rintro e w3 ⟨rfl, h3, k3⟩
  obtain ⟨ha, kw, hlt1, hlt2⟩ := sink_pair h1 k1 h2 k2 h3 k3
  obtain ⟨al, hal⟩ : ∃ al, al = w.heap.size := ⟨_, rfl⟩
  obtain ⟨ao, hao⟩ : ∃ ao, ao = w1.heap.size := ⟨_, rfl⟩
  obtain ⟨a, haa⟩ : ∃ a, a = w2.heap.size := ⟨_, rfl⟩
  rw [← hal, ← hao, ← haa] at ha
  rw [← hal] at hlt1
  rw [← hao] at hlt1 hlt2
  rw [← haa] at hlt2
  rw [← hal, ← hao, ← haa]
  have Hal := hid (And.intro hal (And.intro hao haa))
  clear h1 h2 h3 k1 k2 k3 hal hao haa
  go_wp2_with fail
  have k4 : Kp [] w3 (w3.alloc (.cells #[.int .u8 97, .int .u8 98, .int .u8 99] 5 (3, 4))) := (Kp.refl _ _).alloc _
  have ha4 := ha.kept k4
  have hok : (AK.mk (SK.make 10 (-1)) (SK.make 100 (-1)) 0).Ok := ⟨SK.make_ok _ _ (by omega), SK.make_ok _ _ (by omega)⟩
  have hR : RecIs (w3.alloc (.cells #[.int .u8 97, .int .u8 98, .int .u8 99] 5 (3, 4))) ⟨0, 0, 3, []⟩ (.agg #[.int .i64 0, .int .i64 0, .int .i64 3, .slice none 0 0]) := ⟨none, 0, rfl, Span.nil _ _, by simp, by omega⟩
  have hsb : Span (w3.alloc (.cells #[.int .u8 97, .int .u8 98, .int .u8 99] 5 (3, 4))) (some ⟨w3.heap.size, 0, none⟩) (u8s [97, 98, 99]) := Span.of_new w3 5 (3, 4) (u8s [97, 98, 99])
  refine (release_any _ (hT.kept (kw.nil k4)) a al ao _ ha4 hok _ ⟨0, 0, 3, []⟩ hR (by simp) _ 3 3 [97, 98, 99] hsb rfl (by omega) (by omega)).mono ?_
  rintro e w5 ⟨rfl, ha5, k5⟩
  rw [shown_release] at ha5 ⊢
  have kz : Kp [] w w5 := (kw.nil k4).trans k5 (by
    have h := Hal.out
    intro x hx hl
    simp at hx
    omega)
  go_wp2_with fail
  refine (len_any w5 ao _ ha5.o).mono ?_
  rintro e w6 ⟨rfl, rfl⟩
  simp only [SK.make, List.length_nil]
  go_wp2_with fail
  refine (len_any w5 al _ ha5.l).mono ?_
  rintro e w7 ⟨rfl, rfl⟩
  simp only [SK.make, List.length_nil]
  go_wp2_with fail
  refine (code_any w5 a al ao _ ha5).mono ?_
  rintro e w8 ⟨rfl, rfl⟩
  go_wp2_with fail
  go_ret
  exact ⟨rfl, kz⟩
end Go.Proofs.YtepeopfdenieeaaDoor
