/- What a parameter of the type api.Record gives, and a row of such. -/
import Derived.Test.YtepeopfdenieeaaDoorMay
import Derived.Test.YtepeopfdenieeaaDoorOpen
namespace Go.Proofs.YtepeopfdenieeaaDoor
open Go Go.ChangeShapes Go.WideShapes Go.ChangeAt Go.RowKit

section
variable {W : World} {H : Type} {enc : TypeId × Value → H}
theorem texts_fuel {T E : TypeId} (hT : Tryd.prog.underlying T = some (.slice E)) (hE : Tryd.prog.underlying E = some .string) (hc : Tryd.prog.cellsOf E = 1)
    {a : Option Addr} {len cap fuel : Nat} {x : DataW H × List MemPlace} (h : DataW.trod enc Tryd.prog W 0 (fun _ => true) true fuel T [.slice a len cap] = some x) :
    ∃ l : List ByteArray, Span W a (l.map .string) ∧ l.length = len ∧ len ≤ cap ∧ cap ≤ 9223372036854775807 ∧ (∀ s ∈ l, s.size ≤ maxLen) ∧ (a = none → cap = 0) := by
  obtain ⟨vs, h1, h2, h3, h4, h5, h6⟩ := open_cells (enc := enc) hT hc (fun v => ∃ s : ByteArray, v = .string s ∧ s.size ≤ maxLen) (fun n v y hy => by
    obtain ⟨s, hm, _, hw⟩ := DataW.trod_string hE hy
    injection hm with hm
    exact ⟨s, hm, hw⟩) h
  obtain ⟨l, hl, hq⟩ := pick_list (Q := fun (s : ByteArray) v => v = .string s ∧ s.size ≤ maxLen) vs h5
  have e : vs = l.map .string := by
    apply List.ext_getElem?
    intro i
    rcases Nat.lt_or_ge i l.length with hi | hi
    · obtain ⟨v, g1, rfl, _⟩ := hq i l[i] (List.getElem?_eq_getElem hi)
      simp [g1, hi]
    · rw [List.getElem?_eq_none (by omega), List.getElem?_eq_none (by simpa using hi)]
  subst e
  refine ⟨l, h1, by omega, h3, h4, fun s hs => ?_, h6⟩
  obtain ⟨i, hi⟩ := List.getElem?_of_mem hs
  obtain ⟨_, _, _, g⟩ := hq i s hi
  exact g

/-- What holds of a record that came in. -/
def RecIn (r : Rec) : Prop := (-9223372036854775808 ≤ r.doc ∧ r.doc ≤ 9223372036854775807) ∧ (-9223372036854775808 ≤ r.out ∧ r.out ≤ 9223372036854775807) ∧ (-9223372036854775808 ≤ r.len ∧ r.len ≤ 9223372036854775807) ∧ ∀ s ∈ r.holes, s.size ≤ maxLen
theorem RecIn.sizes {r : Rec} (h : RecIn r) : ∀ s ∈ r.holes, s.size ≤ 9223372036854775807 := fun s hs => by
  have := h.2.2.2 s hs
  unfold maxLen at this
  omega
set_option maxRecDepth 100000 in
theorem rec_fuel {cs : List Value} {fuel : Nat} {x : DataW H × List MemPlace} (h : DataW.trod enc Tryd.prog W 0 (fun _ => true) true fuel 24 cs = some x) :
    ∃ (r : Rec) (A : Option Addr) (c : Nat), cs = [.int .i64 r.doc, .int .i64 r.out, .int .i64 r.len, .slice A r.holes.length c] ∧ Span W A (r.holes.map .string) ∧ r.holes.length ≤ c ∧ c ≤ 9223372036854775807 ∧ RecIn r := by
  obtain ⟨xs, n, rfl, _, hl, hx, hall⟩ := DataW.trod_struct Tryd.underlying24 h
  have hl4 : cs.length = 4 := by rw [hl]; kernel_rfl
  have c1 : Tryd.prog.cellsOf 3 = 1 := by kernel_rfl
  have c2 : Tryd.prog.cellsOf 22 = 1 := by kernel_rfl
  match cs, hl4 with
  | [v0, v1, v2, v3], _ =>
    have hx4 : xs.length = 4 := hx
    match xs, hx4 with
    | [x0, x1, x2, x3], _ =>
      have g0 := hall 0 _ rfl
      have g1 := hall 1 _ rfl
      have g2 := hall 2 _ rfl
      have g3 := hall 3 _ rfl
      simp only [List.getElem?_cons_zero, List.getElem?_cons_succ] at g0 g1 g2 g3
      obtain ⟨d, e0, _, w0⟩ := DataW.trod_int Tryd.underlying3 g0
      obtain ⟨o, e1, _, w1⟩ := DataW.trod_int Tryd.underlying3 g1
      obtain ⟨l, e2, _, w2⟩ := DataW.trod_int Tryd.underlying3 g2
      injection e0 with e0
      injection e1 with e1
      injection e2 with e2
      subst e0 e1 e2
      have hv3 : ∃ a len cap, v3 = .slice a len cap := by
        rcases DataW.trod_slice Tryd.underlying22 g3 with ⟨hcs, _⟩ | ⟨ad, len', cap', _, _, _, _, hcs, _⟩
        · injection hcs with hcs
          exact ⟨_, _, _, hcs⟩
        · injection hcs with hcs
          exact ⟨_, _, _, hcs⟩
      obtain ⟨a, len, cap, rfl⟩ := hv3
      obtain ⟨hs, s1, s2, s3, s4, s5, _⟩ := texts_fuel Tryd.underlying22 Tryd.underlying9 (by kernel_rfl) g3
      subst s2
      exact ⟨⟨d, o, l, hs⟩, a, cap, rfl, s1, s3, s4, wf_i64 w0, wf_i64 w1, wf_i64 w2, s5⟩
theorem open_rec {v : Value} {d : DataW H} {p : List MemPlace} (hok : ∃ cs, v = .agg cs ∧ cs.size = Tryd.prog.cellsOf 24) (h : DataW.Trod enc Tryd.prog W 0 (fun _ => true) true 24 v d p) :
    ∃ r, RecIs W r v ∧ RecIn r := by
  obtain ⟨cs, rfl, _⟩ := hok
  obtain ⟨fuel, hf⟩ := h
  obtain ⟨r, A, c, h1, h2, h3, h4, h5⟩ := rec_fuel hf
  refine ⟨r, ⟨A, c, ?_, h2, h3, h4⟩, h5⟩
  have h1' : cs.toList = _ := h1
  rw [show cs = cs.toList.toArray from by simp, h1']
end
end Go.Proofs.YtepeopfdenieeaaDoor
