/- Adding to a dial; New. -/
import Derived.Test.YtgoojndpondkmaaMOnce
import Derived.Deep.RegionWith
namespace Go.Proofs.Ytgoojndpondkmaa
open Go Go.RowKit

def AddsPost (w : World) (g : Nat) (d : Dl) (e : Ending) (w' : World) : Prop := e = .returned (.tuple #[]) ∧ Cells w' g 62 d.cells ∧ Kp [g] w w'
theorem adds_any (w : World) (g : Nat) (d : Dl) (c t m : Int) (hc : Cells w g 62 d.cells) (c1 : -4000000000000 ≤ d.c + c ∧ d.c + c ≤ 4000000000000) (c2 : -4000000000000 ≤ d.t + t ∧ d.t + t ≤ 4000000000000) :
    Calls Try.prog 20 #[.pointer (some ⟨g, 0, none⟩), .int .i64 c, .int .i64 t, .int .i64 m] w (AddsPost w g (d.add c t m)) := by
  obtain ⟨x, y, z⟩ := d
  simp only [Dl.cells] at hc c1 c2
  have e0 := hc.cell 0
  have f0 := hc.free 0
  obtain ⟨s, hs⟩ : ∃ s, s = x + c := ⟨_, rfl⟩
  obtain ⟨u, hu⟩ : ∃ u, u = y + t := ⟨_, rfl⟩
  rw [← hs] at c1
  rw [← hu] at c2
  have hc1 : Cells (w.setCell ⟨g, 0, none⟩ (.int .i64 s)) g 62 [.int .i64 s, .int .i64 y, .int .i64 z] := hc.put 0 _
  have k1 : Kp [g] w (w.setCell ⟨g, 0, none⟩ (.int .i64 s)) := (Kp.refl _ _).setCell (fun _ => by simp) _
  simp only [List.getElem?_cons_zero] at e0
  have HS := hid (And.intro hs hu)
  clear hs hu
  go_enter Try.func20, Try.ntmps20
  go_wp2_with fail
  refine (add64 w g 0 x c s e0 f0 HS.out.1.symm (by omega) (by omega)).mono ?_
  rintro e w1 ⟨rfl, hw1⟩
  rw [hw1] at hc1 k1
  clear hw1
  have e1 := hc1.cell 1
  have f1 := hc1.free 1
  simp only [List.getElem?_cons_zero, List.getElem?_cons_succ] at e1
  have hc2 : Cells (w1.setCell ⟨g, 1, none⟩ (.int .i64 u)) g 62 [.int .i64 s, .int .i64 u, .int .i64 z] := hc1.put 1 _
  have k2 : Kp [g] w (w1.setCell ⟨g, 1, none⟩ (.int .i64 u)) := k1.setCell (fun _ => by simp) _
  go_wp2_with fail
  refine (add64 w1 g 1 y t u e1 f1 HS.out.2.symm (by omega) (by omega)).mono ?_
  rintro e w2 ⟨rfl, hw2⟩
  rw [hw2] at hc2 k2
  clear hw2
  have hc3 := hc2.drew
  have e2 := hc3.cell 2
  have f2 := hc3.free 2
  simp only [List.getElem?_cons_zero, List.getElem?_cons_succ] at e2
  have hc4 : Cells (w2.drew.setCell ⟨g, 2, none⟩ (.int .i64 (max z m))) g 62 [.int .i64 s, .int .i64 u, .int .i64 (max z m)] := hc3.put 2 _
  have k4 : Kp [g] w (w2.drew.setCell ⟨g, 2, none⟩ (.int .i64 (max z m))) := k2.drew.setCell (fun _ => by simp) _
  go_wp2_with fail
  go_region_with (first
    | (go_at_call 19; refine (load64 _ g 2 z e2).mono ?_; rintro e w3 ⟨rfl, rfl⟩)
    | (go_at_call 25; refine (store64 _ g 2 _ (max z m) e2 f2).mono ?_; rintro e w3 ⟨rfl, rfl⟩))
  all_goals
    go_wp2_with fail
    go_end0
    refine ⟨rfl, ?_, k4⟩
    rw [HS.out.1, HS.out.2] at hc4
    exact hc4
def MNewPost (w : World) (k : Int) (e : Ending) (w' : World) : Prop := e = .returned (.pointer (some ⟨w.heap.size, 0, none⟩)) ∧ MAt w' w.heap.size [] (List.replicate (kindsOf k) Dl.zero) ∧ Kp [] w w'
theorem mnew_any (w : World) (k : Int) : Calls Try.prog 7 #[.int .i64 k] w (MNewPost w k) := by
  go_enter Try.func7, Try.ntmps7
  go_wp2_with fail
  go_ret
  refine ⟨rfl, .inr ⟨rfl, by rw [List.length_replicate], ?_⟩, (Kp.refl _ _).alloc _⟩
  rw [List.length_replicate]
  have e : ((kindsOf k : Nat) : Int) = min (max k 0) 32 := by unfold kindsOf; omega
  simp only [mcells, e]
  exact Cells.fresh _ _ _
end Go.Proofs.Ytgoojndpondkmaa
