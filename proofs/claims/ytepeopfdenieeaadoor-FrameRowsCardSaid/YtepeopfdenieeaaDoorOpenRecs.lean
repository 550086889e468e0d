/- What a law's parameter of the type []api.Record gives. -/
import Derived.Test.YtepeopfdenieeaaDoorOpenRec
import Derived.Test.YtepeopfdenieeaaDoorOpenWide
import Derived.Test.YtepeopfdenieeaaDoorSame
namespace Go.Proofs.YtepeopfdenieeaaDoor
open Go Go.ChangeShapes Go.WideShapes Go.ChangeAt Go.RowKit

theorem open_recs {W : World} {H : Type} {enc : TypeId × Value → H} {a : Option Addr} {len cap : Nat} {d : DataW H} {p : List MemPlace} (h : DataW.Trod enc Tryd.prog W 0 (fun _ => true) true 35 (.slice a len cap) d p) :
    ∃ rs : List Rec, RecsAt W a rs ∧ rs.length = len ∧ len ≤ cap ∧ cap ≤ 9223372036854775807 ∧ ∀ r ∈ rs, RecIn r := by
  obtain ⟨fuel, hf⟩ := h
  obtain ⟨vs, h1, h2, h3, h4, _⟩ := open_wide (enc := enc) Tryd.underlying35 4 (by kernel_rfl) (fun cs => ∃ (r : Rec) (A : Option Addr) (c : Nat), cs = [.int .i64 r.doc, .int .i64 r.out, .int .i64 r.len, .slice A r.holes.length c] ∧ Span W A (r.holes.map .string) ∧ r.holes.length ≤ c ∧ c ≤ 9223372036854775807 ∧ RecIn r)
    (fun n cs y hy => rec_fuel hy) hf
  have pick : ∀ us : List (List Value), (∀ u ∈ us, ∃ r : Rec, ∃ (A : Option Addr) (c : Nat), u = [.int .i64 r.doc, .int .i64 r.out, .int .i64 r.len, .slice A r.holes.length c] ∧ Span W A (r.holes.map .string) ∧ r.holes.length ≤ c ∧ c ≤ 9223372036854775807 ∧ RecIn r) →
      ∃ rs : List Rec, rs.length = us.length ∧ ∀ (i : Nat) (r : Rec), rs[i]? = some r → ∃ u, us[i]? = some u ∧ ∃ (A : Option Addr) (c : Nat), u = [.int .i64 r.doc, .int .i64 r.out, .int .i64 r.len, .slice A r.holes.length c] ∧ Span W A (r.holes.map .string) ∧ r.holes.length ≤ c ∧ c ≤ 9223372036854775807 ∧ RecIn r := by
    intro us
    induction us with
    | nil => exact fun _ => ⟨[], rfl, fun i r h => by simp at h⟩
    | cons u us ih =>
      intro hu
      obtain ⟨r, hr⟩ := hu u (by simp)
      obtain ⟨rs, e1, e2⟩ := ih (fun v hv => hu v (by simp [hv]))
      refine ⟨r :: rs, by simp [e1], fun i q hq => ?_⟩
      cases i with
      | zero =>
        simp only [List.getElem?_cons_zero, Option.some.injEq] at hq
        subst hq
        exact ⟨u, rfl, hr⟩
      | succ i => exact e2 i q (by simpa using hq)
  obtain ⟨rs, e1, e2⟩ := pick vs (fun u hu => by
    obtain ⟨i, hi⟩ := List.getElem?_of_mem hu
    exact (h4 i u hi).1)
  refine ⟨rs, fun k r hk => ?_, by omega, h2, h3, fun r hr => ?_⟩
  · obtain ⟨u, g1, A, c, rfl, g2, g3, g4, _⟩ := e2 k r hk
    obtain ⟨_, _, ad, rfl, hcell⟩ := h4 k _ g1
    refine ⟨ad, rfl, A, c, ?_, ?_, ?_, ?_, g2, g3, g4⟩
    · simpa [Addr.add] using hcell 0 _ rfl
    · simpa [Addr.add] using hcell 1 _ rfl
    · simpa [Addr.add] using hcell 2 _ rfl
    · simpa [Addr.add] using hcell 3 _ rfl
  · obtain ⟨i, hi⟩ := List.getElem?_of_mem hr
    obtain ⟨_, _, _, _, _, _, _, _, g⟩ := e2 i r hi
    exact g
end Go.Proofs.YtepeopfdenieeaaDoor
