/- What the laws' parameters of layer 6 give: rows of names, masks in an array. -/
import Derived.Test.YtgjffkblhhkjmaaDoorOpen
import Derived.Test.YtgjffkblhhkjmaaDoorCFew
namespace Go.Proofs.YtgjffkblhhkjmaaDoor
open Go Go.ChangeShapes Go.WideShapes Go.ChangeAt Go.RowKit

section
variable {W : World} {H : Type} {enc : TypeId × Value → H}
theorem open_strs {a : Option Addr} {len cap : Nat} {d : DataW H} {p : List MemPlace} (h : DataW.Trod enc Tryd.prog W 0 (fun _ => true) true 22 (.slice a len cap) d p) :
    ∃ C : List Txt, Raws W a cap C ∧ C.length = len := by
  obtain ⟨fuel, hf⟩ := h
  obtain ⟨vs, h1, h2, h3, h4, h5, h6⟩ := open_cells (enc := enc) Tryd.underlying22 (show Tryd.prog.cellsOf 9 = 1 by kernel_rfl) (fun v => ∃ x : Txt, v = .string ⟨x.toArray⟩ ∧ x.length ≤ 9223372036854775807) (fun n v y hy => by
    obtain ⟨s, e0, _, w0⟩ := DataW.trod_string Tryd.underlying9 hy
    injection e0 with e0
    refine ⟨s.data.toList, by rw [e0, Array.toArray_toList], ?_⟩
    unfold maxLen at w0
    rw [Array.length_toList]
    exact w0) hf
  obtain ⟨C, hl, hq⟩ := pick_list (Q := fun (x : Txt) v => v = .string ⟨x.toArray⟩ ∧ x.length ≤ 9223372036854775807) vs h5
  have hvs : vs = strs C := by
    apply List.ext_getElem?
    intro i
    rcases Nat.lt_or_ge i C.length with hi | hi
    · obtain ⟨v, g1, g2, _⟩ := hq i C[i] (List.getElem?_eq_getElem hi)
      rw [g1, g2]
      simp [strs, hi]
    · rw [List.getElem?_eq_none (by omega), List.getElem?_eq_none (by simpa [strs] using hi)]
  subst hvs
  refine ⟨C, ⟨h1, by rw [length_strs] at h2; omega, h4, fun x hx => ?_⟩, by rw [length_strs] at h2; exact h2⟩
  obtain ⟨i, hi⟩ := List.getElem?_of_mem hx
  obtain ⟨_, _, _, g⟩ := hq i x hi
  exact g
set_option maxRecDepth 100000 in
theorem okWide_arr2 {base : Nat} {v : Value} (h : Value.okWide Tryd.prog W .any base 32 v) : ∃ cs, v = .agg cs := by
  simp only [Value.okWide, Tryd.underlying32] at h
  obtain ⟨cs, h1, _⟩ := h
  exact ⟨cs, h1⟩
set_option maxRecDepth 100000 in
theorem okWide_arr3 {base : Nat} {v : Value} (h : Value.okWide Tryd.prog W .any base 38 v) : ∃ cs, v = .agg cs := by
  simp only [Value.okWide, Tryd.underlying38] at h
  obtain ⟨cs, h1, _⟩ := h
  exact ⟨cs, h1⟩
set_option maxRecDepth 100000 in
theorem open_arr2 {v : Value} {d : DataW H} {p : List MemPlace} (hok : ∃ cs, v = .agg cs) (h : DataW.Trod enc Tryd.prog W 0 (fun _ => true) true 32 v d p) :
    ∃ a b : Int, v = .agg #[.int .u64 a, .int .u64 b] ∧ (0 ≤ a ∧ a ≤ 18446744073709551615) ∧ (0 ≤ b ∧ b ≤ 18446744073709551615) := by
  obtain ⟨cs, rfl⟩ := hok
  obtain ⟨fuel, hf⟩ := h
  obtain ⟨xs, n, rfl, _, hl, hx, hall⟩ := DataW.trod_array Tryd.underlying32 hf
  have c1 : Tryd.prog.cellsOf 23 = 1 := by kernel_rfl
  have hl2 : cs.toList.length = 2 := by
    have h2 : Tryd.prog.cellsOf 32 = 2 := by kernel_rfl
    exact hl.trans h2
  match hm : cs.toList, hl2, xs, hx with
  | [v0, v1], _, [x0, x1], _ =>
    have hcs : (Value.agg cs).cells.toList = [v0, v1] := hm
    rw [hcs] at hall
    have e0 : (([v0, v1] : List Value).drop (0 * Tryd.prog.cellsOf 23)).take (Tryd.prog.cellsOf 23) = [v0] := by rw [c1]; rfl
    have e1 : (([v0, v1] : List Value).drop (1 * Tryd.prog.cellsOf 23)).take (Tryd.prog.cellsOf 23) = [v1] := by rw [c1]; rfl
    have g0 : DataW.trod enc Tryd.prog W 0 (fun _ => true) true n 23 [v0] = some x0 := by rw [← e0]; exact hall 0 (by omega)
    have g1 : DataW.trod enc Tryd.prog W 0 (fun _ => true) true n 23 [v1] = some x1 := by rw [← e1]; exact hall 1 (by omega)
    obtain ⟨a, y0, _, w0⟩ := DataW.trod_int Tryd.underlying23 g0
    obtain ⟨b, y1, _, w1⟩ := DataW.trod_int Tryd.underlying23 g1
    injection y0 with y0
    injection y1 with y1
    refine ⟨a, b, ?_, wf_u64 w0, wf_u64 w1⟩
    rw [show cs = cs.toList.toArray from by simp, hm, y0, y1]
set_option maxRecDepth 100000 in
theorem open_arr3 {v : Value} {d : DataW H} {p : List MemPlace} (hok : ∃ cs, v = .agg cs) (h : DataW.Trod enc Tryd.prog W 0 (fun _ => true) true 38 v d p) :
    ∃ a b c : Int, v = .agg #[.int .u64 a, .int .u64 b, .int .u64 c] ∧ (0 ≤ a ∧ a ≤ 18446744073709551615) ∧ (0 ≤ b ∧ b ≤ 18446744073709551615) ∧ (0 ≤ c ∧ c ≤ 18446744073709551615) := by
  obtain ⟨cs, rfl⟩ := hok
  obtain ⟨fuel, hf⟩ := h
  obtain ⟨xs, n, rfl, _, hl, hx, hall⟩ := DataW.trod_array Tryd.underlying38 hf
  have c1 : Tryd.prog.cellsOf 23 = 1 := by kernel_rfl
  have hl2 : cs.toList.length = 3 := by
    have h2 : Tryd.prog.cellsOf 38 = 3 := by kernel_rfl
    exact hl.trans h2
  match hm : cs.toList, hl2, xs, hx with
  | [v0, v1, v2], _, [x0, x1, x2], _ =>
    have hcs : (Value.agg cs).cells.toList = [v0, v1, v2] := hm
    rw [hcs] at hall
    have e0 : (([v0, v1, v2] : List Value).drop (0 * Tryd.prog.cellsOf 23)).take (Tryd.prog.cellsOf 23) = [v0] := by rw [c1]; rfl
    have e1 : (([v0, v1, v2] : List Value).drop (1 * Tryd.prog.cellsOf 23)).take (Tryd.prog.cellsOf 23) = [v1] := by rw [c1]; rfl
    have e2 : (([v0, v1, v2] : List Value).drop (2 * Tryd.prog.cellsOf 23)).take (Tryd.prog.cellsOf 23) = [v2] := by rw [c1]; rfl
    have g0 : DataW.trod enc Tryd.prog W 0 (fun _ => true) true n 23 [v0] = some x0 := by rw [← e0]; exact hall 0 (by omega)
    have g1 : DataW.trod enc Tryd.prog W 0 (fun _ => true) true n 23 [v1] = some x1 := by rw [← e1]; exact hall 1 (by omega)
    have g2 : DataW.trod enc Tryd.prog W 0 (fun _ => true) true n 23 [v2] = some x2 := by rw [← e2]; exact hall 2 (by omega)
    obtain ⟨a, y0, _, w0⟩ := DataW.trod_int Tryd.underlying23 g0
    obtain ⟨b, y1, _, w1⟩ := DataW.trod_int Tryd.underlying23 g1
    obtain ⟨c, y2, _, w2⟩ := DataW.trod_int Tryd.underlying23 g2
    injection y0 with y0
    injection y1 with y1
    injection y2 with y2
    refine ⟨a, b, c, ?_, wf_u64 w0, wf_u64 w1, wf_u64 w2⟩
    rw [show cs = cs.toList.toArray from by simp, hm, y0, y1, y2]
end
end Go.Proofs.YtgjffkblhhkjmaaDoor
