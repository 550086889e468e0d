/- What a parameter of the type Swap gives: a number, a text. -/
import Derived.Test.YtpeldjihalldkaaDoorRA
import Derived.Test.YtpeldjihalldkaaDoorRC
namespace Go.Proofs.YtpeldjihalldkaaDoor
open Go Go.ChangeShapes Go.WideShapes Go.ChangeAt Go.RowKit

section
variable {W : World} {H : Type} {enc : TypeId × Value → H}
set_option maxRecDepth 100000 in
theorem swap_fuel {cs : List Value} {fuel : Nat} {x : DataW H × List MemPlace} (h : DataW.trod enc Tryd.prog W 0 (fun _ => true) true fuel 60 cs = some x) :
    ∃ (z : Int) (s : ByteArray), cs = [.int .i64 z, .string s] ∧ s.size ≤ maxLen := by
  obtain ⟨xs, n, rfl, _, hl, hx, hall⟩ := DataW.trod_struct Tryd.underlying60 h
  have hl2 : cs.length = 2 := by rw [hl]; kernel_rfl
  have c1 : Tryd.prog.cellsOf 3 = 1 := by kernel_rfl
  have c2 : Tryd.prog.cellsOf 9 = 1 := by kernel_rfl
  match cs, hl2 with
  | [v0, v1], _ =>
    have hx2 : xs.length = 2 := hx
    match xs, hx2 with
    | [x0, x1], _ =>
      have g0 := hall 0 _ rfl
      have g1 := hall 1 _ rfl
      simp only [List.getElem?_cons_zero, List.getElem?_cons_succ] at g0 g1
      obtain ⟨z, e0, _, _⟩ := DataW.trod_int Tryd.underlying3 g0
      obtain ⟨s, e1, _, w1⟩ := DataW.trod_string Tryd.underlying9 g1
      injection e0 with e0
      injection e1 with e1
      subst e0 e1
      exact ⟨z, s, rfl, w1⟩
theorem open_swap {v : Value} {d : DataW H} {p : List MemPlace} (hok : ∃ cs, v = .agg cs ∧ cs.size = Tryd.prog.cellsOf 60) (h : DataW.Trod enc Tryd.prog W 0 (fun _ => true) true 60 v d p) :
    ∃ (z : Int) (s : ByteArray), v = .agg #[.int .i64 z, .string s] ∧ s.size ≤ maxLen := by
  obtain ⟨cs, rfl, _⟩ := hok
  obtain ⟨fuel, hf⟩ := h
  obtain ⟨z, s, h1, h2⟩ := swap_fuel hf
  have h1' : cs.toList = _ := h1
  refine ⟨z, s, ?_, h2⟩
  rw [show cs = cs.toList.toArray from by simp, h1']
end
end Go.Proofs.YtpeldjihalldkaaDoor
