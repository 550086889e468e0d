/- slices.Reverse of four bytes. -/
import Derived.Test.YtepeopfdenieeaaDoorNumber
namespace Go.Proofs.YtepeopfdenieeaaDoor
open Go Go.RowKit

def stage (a b c d : Value) : Nat → List Value
  | 0 => [a, b, c, d]
  | 1 => [d, b, c, a]
  | _ => [d, c, b, a]
def RevPost (w : World) (v : Value) (a b c d : Value) (e : Ending) (w' : World) : Prop := e = .returned (.tuple #[]) ∧ Own w' 5 v 4 [d, c, b, a] ∧ Kp v.ownBlock.toList w w'
set_option maxHeartbeats 400000 in
theorem reverse_four (w : World) (A : Option Addr) (c : Nat) (x y z t : Int) (hown : Own w 5 (.slice A 4 c) 4 [.int .u8 x, .int .u8 y, .int .u8 z, .int .u8 t]) :
    Calls Tryd.prog 40 #[.slice A 4 c] w (RevPost w (.slice A 4 c) (.int .u8 x) (.int .u8 y) (.int .u8 z) (.int .u8 t)) := by
  obtain ⟨g, rfl, -⟩ := hown.at (by omega)
  go_enter Tryd.func40, Tryd.ntmps40
  go_wp2_with fail
  go_loopw [2, 3] (fun i j wr => ∃ k : Nat, k ≤ 2 ∧ i = .int .i64 k ∧ j = .int .i64 (3 - k) ∧ Own wr 5 (.slice (some ⟨g, 0, none⟩) 4 c) 4 (stage (.int .u8 x) (.int .u8 y) (.int .u8 z) (.int .u8 t) k) ∧ Kp [g] w wr) (fun i _ _ => 2 - (intOf i).toNat)
  case atStart => exact ⟨0, by omega, rfl, rfl, hown, Kp.refl _ _⟩
  case round =>
    obtain ⟨k, hk, rfl, rfl, ho, hkp⟩ := hrel
    obtain ⟨g', e, hg, hcell, hfree, hput⟩ := ho.at (by omega)
    injection e with e
    injection e with e
    subst e
    clear hput
    rcases (show k = 0 ∨ k = 1 ∨ k = 2 from by omega) with rfl | rfl | rfl
    · have c1 := hcell 0 (by omega)
      have c2 := hcell 3 (by omega)
      simp only [stage, List.getElem?_cons_zero, List.getElem?_cons_succ] at c1 c2
      have f1 := hfree 0 (by omega)
      have f2 := hfree 3 (by omega)
      clear hcell hfree
      go_wp2_with fail
      go_region
      go_wp2_with fail
      go_roundw
      case rel => exact ⟨1, by omega, rfl, rfl, (ho.put (j := 0) (by omega) _).put (j := 3) (by omega) _, ((hkp.setCell (fun _ => by simp) _).setCell (fun _ => by simp) _).drew⟩
      case measure => simp [intOf]
    · have c1 := hcell 1 (by omega)
      have c2 := hcell 2 (by omega)
      simp only [stage, List.getElem?_cons_zero, List.getElem?_cons_succ] at c1 c2
      have f1 := hfree 1 (by omega)
      have f2 := hfree 2 (by omega)
      clear hcell hfree
      go_wp2_with fail
      go_region
      go_wp2_with fail
      go_roundw
      case rel => exact ⟨2, by omega, rfl, rfl, (ho.put (j := 1) (by omega) _).put (j := 2) (by omega) _, ((hkp.setCell (fun _ => by simp) _).setCell (fun _ => by simp) _).drew⟩
      case measure => simp [intOf]
    · clear hcell hfree
      go_wp2_with fail
      go_end0
      exact ⟨rfl, ho, by simpa [Value.ownBlock] using hkp⟩
end Go.Proofs.YtepeopfdenieeaaDoor
