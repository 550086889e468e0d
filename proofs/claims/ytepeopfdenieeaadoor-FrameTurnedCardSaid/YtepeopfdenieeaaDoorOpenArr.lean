/- What a parameter of the type [4]byte gives. -/
import Derived.Test.YtepeopfdenieeaaDoorProg
import Derived.Test.YtepeopfdenieeaaDoorOpen
namespace Go.Proofs.YtepeopfdenieeaaDoor
open Go Go.ChangeShapes Go.WideShapes Go.ChangeAt Go.RowKit

theorem okWide_arr {W : World} {base : Nat} {v : Value} (h : Value.okWide Tryd.prog W .any base 38 v) : ∃ cs, v = .agg cs := by
  simp only [Value.okWide, Tryd.underlying38] at h
  obtain ⟨cs, h1, _⟩ := h
  exact ⟨cs, h1⟩
set_option maxRecDepth 100000 in
theorem open_arr4 {W : World} {H : Type} {enc : TypeId × Value → H} {v : Value} {d : DataW H} {p : List MemPlace} (hok : ∃ cs, v = .agg cs) (h : DataW.Trod enc Tryd.prog W 0 (fun _ => true) true 38 v d p) :
    ∃ a b c e : UInt8, v = .agg #[u8 a, u8 b, u8 c, u8 e] := by
  obtain ⟨cs, rfl⟩ := hok
  obtain ⟨fuel, hf⟩ := h
  obtain ⟨xs, n, rfl, _, hl, hx, hall⟩ := DataW.trod_array Tryd.underlying38 hf
  have c1 : Tryd.prog.cellsOf 5 = 1 := by kernel_rfl
  have hl4 : cs.toList.length = 4 := by
    have h4 : Tryd.prog.cellsOf 38 = 4 := by kernel_rfl
    exact hl.trans h4
  have hall' : ∀ i, i < 4 → ∃ z : UInt8, cs.toList[i]? = some (u8 z) := by
    intro i hi
    have g := hall i hi
    have hxi : xs[i]? = some xs[i] := List.getElem?_eq_getElem (by omega)
    have hci : cs.toList[i]? = some (cs.toList[i]'(by omega)) := List.getElem?_eq_getElem (by omega)
    rw [c1, Nat.mul_one, hxi] at g
    have hd : ((Value.agg cs).cells.toList.drop i).take 1 = [cs.toList[i]'(by omega)] := by
      show (cs.toList.drop i).take 1 = _
      rw [List.drop_eq_getElem_cons (by omega)]
      rfl
    rw [hd] at g
    obtain ⟨z, e0, _, w0⟩ := DataW.trod_int Tryd.underlying5 g
    injection e0 with e0
    have hb := wf_u8 w0
    refine ⟨UInt8.ofNat z.toNat, ?_⟩
    rw [hci, e0]
    simp only [u8]
    congr 2
    simp
    omega
  obtain ⟨a, ha⟩ := hall' 0 (by omega)
  obtain ⟨b, hb⟩ := hall' 1 (by omega)
  obtain ⟨c, hc⟩ := hall' 2 (by omega)
  obtain ⟨e, he⟩ := hall' 3 (by omega)
  refine ⟨a, b, c, e, ?_⟩
  have hcs : cs.toList = [u8 a, u8 b, u8 c, u8 e] := by
    match hm : cs.toList, hl4 with
    | [x0, x1, x2, x3], _ =>
      rw [hm] at ha hb hc he
      simp at ha hb hc he
      rw [ha, hb, hc, he]
  rw [show cs = cs.toList.toArray from by simp, hcs]
end Go.Proofs.YtepeopfdenieeaaDoor
