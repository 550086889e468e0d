/- What a parameter of the type api.Dec gives, and three of them in an array. -/
import Derived.Test.YtampgimmodomoaaDoorDVals
import Derived.Test.YtampgimmodomoaaDoorOpen
namespace Go.Proofs.YtampgimmodomoaaDoor
open Go Go.ChangeShapes Go.WideShapes Go.ChangeAt Go.RowKit

/-- Nothing is asked of the tables. -/
def Tabs (_ : World) : Prop := True
theorem bytes_back (s : ByteArray) : (⟨s.data.toList.toArray⟩ : ByteArray) = s := by
  rw [Array.toArray_toList]
/-- A decimal as it came in: any sign, any bytes, any scale. -/
structure RawD where
  neg : Bool
  l : List UInt8
  s : Int
def RawD.v (r : RawD) : Value := .agg #[.bool r.neg, .string ⟨r.l.toArray⟩, .int .i64 r.s]
def RawD.cs (r : RawD) : List Value := [.bool r.neg, .string ⟨r.l.toArray⟩, .int .i64 r.s]
def RawD.ok (r : RawD) : Prop := r.l.length ≤ 9223372036854775807 ∧ -9223372036854775808 ≤ r.s ∧ r.s ≤ 9223372036854775807
section
variable {W : World} {H : Type} {enc : TypeId × Value → H}
set_option maxRecDepth 100000 in
theorem dec_fuel {cs : List Value} {fuel : Nat} {x : DataW H × List MemPlace} (h : DataW.trod enc Tryd.prog W 0 (fun _ => true) true fuel 23 cs = some x) :
    ∃ r : RawD, cs = r.cs ∧ r.ok := by
  obtain ⟨xs, n, rfl, _, hl, hx, hall⟩ := DataW.trod_struct Tryd.underlying23 h
  have hl3 : cs.length = 3 := by rw [hl]; kernel_rfl
  have c1 : Tryd.prog.cellsOf 3 = 1 := by kernel_rfl
  have c2 : Tryd.prog.cellsOf 9 = 1 := by kernel_rfl
  have c3 : Tryd.prog.cellsOf 4 = 1 := by kernel_rfl
  match cs, hl3 with
  | [v0, v1, v2], _ =>
    have hx3 : xs.length = 3 := hx
    match xs, hx3 with
    | [x0, x1, x2], _ =>
      have g0 := hall 0 _ rfl
      have g1 := hall 1 _ rfl
      have g2 := hall 2 _ rfl
      simp only [List.getElem?_cons_zero, List.getElem?_cons_succ] at g0 g1 g2
      obtain ⟨b, e0, _⟩ := DataW.trod_bool Tryd.underlying4 g0
      obtain ⟨s, e1, _, w1⟩ := DataW.trod_string Tryd.underlying9 g1
      obtain ⟨z, e2, _, w2⟩ := DataW.trod_int Tryd.underlying3 g2
      injection e0 with e0
      injection e1 with e1
      injection e2 with e2
      subst e0 e1 e2
      refine ⟨⟨b, s.data.toList, z⟩, ?_, ?_, wf_i64 w2⟩
      · show [Value.bool b, .string s, .int .i64 z] = [Value.bool b, .string ⟨s.data.toList.toArray⟩, .int .i64 z]
        rw [Array.toArray_toList]
      · show s.data.toList.length ≤ _
        unfold maxLen at w1
        exact w1
theorem open_dec {v : Value} {d : DataW H} {p : List MemPlace} (hok : ∃ cs, v = .agg cs ∧ cs.size = Tryd.prog.cellsOf 23) (h : DataW.Trod enc Tryd.prog W 0 (fun _ => true) true 23 v d p) :
    ∃ (b : Bool) (l : List UInt8) (z : Int), v = .agg #[.bool b, .string ⟨l.toArray⟩, .int .i64 z] ∧ l.length ≤ 9223372036854775807 ∧ -9223372036854775808 ≤ z ∧ z ≤ 9223372036854775807 := by
  obtain ⟨cs, rfl, _⟩ := hok
  obtain ⟨fuel, hf⟩ := h
  obtain ⟨r, h1, h2⟩ := dec_fuel hf
  have h1' : cs.toList = _ := h1
  refine ⟨r.neg, r.l, r.s, ?_, h2⟩
  rw [show cs = cs.toList.toArray from by simp, h1']
  rfl
set_option maxRecDepth 100000 in
theorem okWide_decs {base : Nat} {v : Value} (h : Value.okWide Tryd.prog W .any base 41 v) : ∃ cs, v = .agg cs := by
  simp only [Value.okWide, Tryd.underlying41] at h
  obtain ⟨cs, h1, _⟩ := h
  exact ⟨cs, h1⟩
set_option maxRecDepth 100000 in
/-- Three in an array: nine cells in a row. -/
theorem open_decs {v : Value} {d : DataW H} {p : List MemPlace} (hok : ∃ cs, v = .agg cs) (h : DataW.Trod enc Tryd.prog W 0 (fun _ => true) true 41 v d p) :
    ∃ x y z : RawD, v = .agg (x.cs ++ y.cs ++ z.cs).toArray ∧ x.ok ∧ y.ok ∧ z.ok := by
  obtain ⟨cs, rfl⟩ := hok
  obtain ⟨fuel, hf⟩ := h
  obtain ⟨xs, n, rfl, _, hl, hx, hall⟩ := DataW.trod_array Tryd.underlying41 hf
  have c1 : Tryd.prog.cellsOf 23 = 3 := by kernel_rfl
  have hl9 : cs.toList.length = 9 := by
    have h9 : Tryd.prog.cellsOf 41 = 9 := by kernel_rfl
    exact hl.trans h9
  have hall' : ∀ i, i < 3 → ∃ r : RawD, (cs.toList.drop (i * 3)).take 3 = r.cs ∧ r.ok := by
    intro i hi
    have g := hall i hi
    have hxi : xs[i]? = some xs[i] := List.getElem?_eq_getElem (by omega)
    rw [c1, hxi] at g
    exact dec_fuel g
  obtain ⟨r0, a0, b0⟩ := hall' 0 (by omega)
  obtain ⟨r1, a1, b1⟩ := hall' 1 (by omega)
  obtain ⟨r2, a2, b2⟩ := hall' 2 (by omega)
  refine ⟨r0, r1, r2, ?_, b0, b1, b2⟩
  have hcs : cs.toList = r0.cs ++ r1.cs ++ r2.cs := by
    rw [← a0, ← a1, ← a2]
    match cs.toList, hl9 with
    | [_, _, _, _, _, _, _, _, _], _ => rfl
  rw [← hcs]
end
end Go.Proofs.YtampgimmodomoaaDoor
