/- What a parameter of the type [3]byte gives. -/
import Derived.Test.YtaaikjedagnjbaaProg
import Derived.Test.YtaaikjedagnjbaaOpen
namespace Go.Proofs.Ytaaikjedagnjbaa
open Go Go.ChangeShapes Go.WideShapes Go.ChangeAt Go.RowKit

set_option maxRecDepth 100000 in
theorem okWide_arr3 {W : World} {base : Nat} {v : Value} (h : Value.okWide Try.prog W .any base 37 v) : ∃ cs, v = .agg cs := by
  simp only [Value.okWide, Try.underlying37] at h
  obtain ⟨cs, h1, _⟩ := h
  exact ⟨cs, h1⟩
set_option maxRecDepth 100000 in
theorem open_arr3 {W : World} {H : Type} {enc : TypeId × Value → H} {v : Value} {d : DataW H} {p : List MemPlace} (hok : ∃ cs, v = .agg cs) (h : DataW.Trod enc Try.prog W 0 (fun _ => true) true 37 v d p) :
    ∃ a b c : UInt8, v = .agg #[u8 a, u8 b, u8 c] := by
  obtain ⟨cs, rfl⟩ := hok
  obtain ⟨fuel, hf⟩ := h
  obtain ⟨xs, n, rfl, _, hl, hx, hall⟩ := DataW.trod_array Try.underlying37 hf
  have c1 : Try.prog.cellsOf 5 = 1 := by kernel_rfl
  have hl4 : cs.toList.length = 3 := by
    have h4 : Try.prog.cellsOf 37 = 3 := by kernel_rfl
    exact hl.trans h4
  have hall' : ∀ i, i < 3 → ∃ z : UInt8, cs.toList[i]? = some (u8 z) := by
    intro i hi
    have g := hall i hi
    have hxi : xs[i]? = some xs[i] := List.getElem?_eq_getElem (by omega)
    have hci : cs.toList[i]? = some (cs.toList[i]'(by omega)) := List.getElem?_eq_getElem (by omega)
    rw [c1, Nat.mul_one, hxi] at g
    have hd : ((Value.agg cs).cells.toList.drop i).take 1 = [cs.toList[i]'(by omega)] := by
      show (cs.toList.drop i).take 1 = _
      rw [List.drop_eq_getElem_cons (by omega)]
      rfl
    rw [hd] at g
    obtain ⟨z, e0, _, w0⟩ := DataW.trod_int Try.underlying5 g
    injection e0 with e0
    have hb := wf_u8 w0
    refine ⟨UInt8.ofNat z.toNat, ?_⟩
    rw [hci, e0]
    simp only [u8]
    congr 2
    simp
    omega
  obtain ⟨a, ha⟩ := hall' 0 (by omega)
  obtain ⟨b, hb⟩ := hall' 1 (by omega)
  obtain ⟨c, hc⟩ := hall' 2 (by omega)
  refine ⟨a, b, c, ?_⟩
  have hcs : cs.toList = [u8 a, u8 b, u8 c] := by
    match hm : cs.toList, hl4 with
    | [x0, x1, x2], _ =>
      rw [hm] at ha hb hc
      simp at ha hb hc
      rw [ha, hb, hc]
  rw [show cs = cs.toList.toArray from by simp, hcs]
end Go.Proofs.Ytaaikjedagnjbaa
