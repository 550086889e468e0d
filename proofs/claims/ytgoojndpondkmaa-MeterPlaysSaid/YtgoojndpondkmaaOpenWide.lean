/- What a law's parameter gives that is a slice of elements of several cells. Over any program. -/
import Derived.Test.YtgoojndpondkmaaOpen
namespace Go.Proofs.Ytgoojndpondkmaa
open Go Go.ChangeShapes Go.WideShapes Go.ChangeAt Go.RowKit

theorem pick_lists {α β : Type} {Q : α → β → Prop} : ∀ us : List β, (∀ u ∈ us, ∃ x, Q x u) → ∃ l : List α, l.length = us.length ∧ ∀ (i : Nat) (x : α), l[i]? = some x → ∃ u, us[i]? = some u ∧ Q x u
  | [], _ => ⟨[], rfl, by simp⟩
  | u :: us, h => by
    obtain ⟨x, hx⟩ := h u (by simp)
    obtain ⟨l, hl, hq⟩ := pick_lists us (fun v hv => h v (by simp [hv]))
    refine ⟨x :: l, by simp [hl], fun i y hy => ?_⟩
    cases i with
    | zero =>
      simp only [List.getElem?_cons_zero, Option.some.injEq] at hy
      subst hy
      exact ⟨u, rfl, hx⟩
    | succ i => exact hq i y (by simpa using hy)
section
variable {P : Program} {W : World} {H : Type} {enc : TypeId × Value → H}
/-- The elements, each as its cells. -/
theorem open_wide {T E : TypeId} (hT : P.underlying T = some (.slice E)) (s : Nat) (hc : P.cellsOf E = s) (Q : List Value → Prop)
    (hQ : ∀ n cs y, DataW.trod enc P W 0 (fun _ => true) true n E cs = some y → Q cs)
    {a : Option Addr} {len cap fuel : Nat} {x : DataW H × List MemPlace} (h : DataW.trod enc P W 0 (fun _ => true) true fuel T [.slice a len cap] = some x) :
    ∃ vs : List (List Value), vs.length = len ∧ len ≤ cap ∧ cap ≤ 9223372036854775807 ∧ (∀ (i : Nat) cs, vs[i]? = some cs → Q cs ∧ cs.length = s ∧ ∃ ad, a = some ad ∧ ∀ j u, cs[j]? = some u → W.cell? ((ad.add (i * s)).add j) = some u) ∧ (a = none → cap = 0) := by
  rcases DataW.trod_slice hT h with ⟨hcs, _⟩ | ⟨ad, len', cap', elems, rest, n, _, hcs, _, _, hl, hm, hlen, hel, _, _⟩
  · injection hcs with hcs
    injection hcs with h1 h2 h3
    subst h1 h2 h3
    exact ⟨[], rfl, Nat.le_refl _, by omega, by simp, fun _ => rfl⟩
  · injection hcs with hcs
    injection hcs with h1 h2 h3
    subst h1 h2 h3
    have each : ∀ i, i < len → ∃ cs, W.cells? 0 (ad.add (i * s)) s = some cs ∧ Q cs := by
      intro i hi
      have h1 := hel i hi
      rw [hc] at h1
      have hsome : elems[i]? = some elems[i] := List.getElem?_eq_getElem (by omega)
      rw [hsome, Option.bind_eq_some_iff] at h1
      obtain ⟨cs', hcs, hy⟩ := h1
      exact ⟨cs', hcs, hQ _ _ _ hy⟩
    refine ⟨(List.range len).map fun i => (W.cells? 0 (ad.add (i * s)) s).getD [], by simp, hl, by simpa [maxLen] using hm, ?_, by simp⟩
    intro i cs hi
    have hlt : i < len := by
      have := (List.getElem?_eq_some_iff.1 hi).1
      simpa using this
    obtain ⟨cs', h1, h2⟩ := each i hlt
    rw [List.getElem?_map, List.getElem?_range hlt] at hi
    simp only [Option.map_some, h1, Option.getD_some, Option.some.injEq] at hi
    subst hi
    obtain ⟨-, g2, g3⟩ := World.cells?_some h1
    refine ⟨h2, g2, ad, rfl, fun j u hj => ?_⟩
    have hjs : j < s := by
      have := (List.getElem?_eq_some_iff.1 hj).1
      omega
    rw [g3 j hjs]
    exact hj
end
end Go.Proofs.Ytgoojndpondkmaa
