/- What a law's parameter of the type [][2]int gives. -/
import Derived.Test.YtgoojndpondkmaaOpenWide
import Derived.Test.YtgoojndpondkmaaChecked
namespace Go.Proofs.Ytgoojndpondkmaa
open Go Go.ChangeShapes Go.WideShapes Go.ChangeAt Go.RowKit

def In64 (n : Int) : Prop := -9223372036854775808 ≤ n ∧ n ≤ 9223372036854775807
/-- A row of pairs of numbers. -/
def PairsAt (w : World) (A : Option Addr) (l : List (Int × Int)) : Prop := ∀ (k : Nat) (p : Int × Int), l[k]? = some p →
  ∃ g o, A = some ⟨g, o, none⟩ ∧ w.cell? ⟨g, o + k * 2, none⟩ = some (.int .i64 p.1) ∧ w.cell? ⟨g, o + k * 2 + 1, none⟩ = some (.int .i64 p.2) ∧ In64 p.1 ∧ In64 p.2
theorem PairsAt.kept {w w' : World} {A : Option Addr} {l : List (Int × Int)} (h : PairsAt w A l) (k : Kp [] w w') : PairsAt w' A l := fun i p hi => by
  obtain ⟨g, o, h1, h2, h3, h4⟩ := h i p hi
  exact ⟨g, o, h1, k.cell h2 (by simp), k.cell h3 (by simp), h4⟩
theorem pair_cells {w : World} {ad : Addr} {i : Nat} {u v u0 : Value} (h00 : w.cell? ((ad.add (0 * 2)).add 0) = some u0) (h0 : w.cell? ((ad.add (i * 2)).add 0) = some u) (h1 : w.cell? ((ad.add (i * 2)).add 1) = some v) :
    ad = ⟨ad.block, ad.off, none⟩ ∧ w.cell? ⟨ad.block, ad.off + i * 2, none⟩ = some u ∧ w.cell? ⟨ad.block, ad.off + i * 2 + 1, none⟩ = some v := by
  obtain ⟨g, o, s⟩ := ad
  have hs : s = none := by
    have h := World.shape?_of_cell? h00
    obtain ⟨e, n, _, _, hsp⟩ := h
    simpa [Addr.add] using hsp
  subst hs
  refine ⟨rfl, ?_, ?_⟩
  · rw [add_add, Nat.add_zero] at h0
    unfold Addr.add at h0
    split at h0
    · rename_i hz
      rw [hz]
      exact h0
    · exact h0
  · rw [add_add] at h1
    unfold Addr.add at h1
    rw [if_neg (by omega)] at h1
    exact h1
section
variable {W : World} {H : Type} {enc : TypeId × Value → H}
theorem pair_fuel {cs : List Value} {fuel : Nat} {x : DataW H × List MemPlace} (h : DataW.trod enc Try.prog W 0 (fun _ => true) true fuel 28 cs = some x) :
    ∃ a b : Int, cs = [.int .i64 a, .int .i64 b] ∧ In64 a ∧ In64 b := by
  obtain ⟨xs, n, rfl, _, hl, hx, hall⟩ := DataW.trod_array Try.underlying28 h
  have c1 : Try.prog.cellsOf 3 = 1 := by kernel_rfl
  have hl2 : cs.length = 2 := by
    have h2 : Try.prog.cellsOf 28 = 2 := by kernel_rfl
    exact hl.trans h2
  match cs, hl2, xs, hx with
  | [v0, v1], _, [x0, x1], _ =>
    have e0 : (([v0, v1] : List Value).drop (0 * Try.prog.cellsOf 3)).take (Try.prog.cellsOf 3) = [v0] := by rw [c1]; rfl
    have e1 : (([v0, v1] : List Value).drop (1 * Try.prog.cellsOf 3)).take (Try.prog.cellsOf 3) = [v1] := by rw [c1]; rfl
    have g0 : DataW.trod enc Try.prog W 0 (fun _ => true) true n 3 [v0] = some x0 := by rw [← e0]; exact hall 0 (by omega)
    have g1 : DataW.trod enc Try.prog W 0 (fun _ => true) true n 3 [v1] = some x1 := by rw [← e1]; exact hall 1 (by omega)
    obtain ⟨a, y0, _, w0⟩ := DataW.trod_int Try.underlying3 g0
    obtain ⟨b, y1, _, w1⟩ := DataW.trod_int Try.underlying3 g1
    injection y0 with y0
    injection y1 with y1
    exact ⟨a, b, by rw [y0, y1], wf_i64 w0, wf_i64 w1⟩
theorem open_pairs {a : Option Addr} {len cap : Nat} {d : DataW H} {p : List MemPlace} (h : DataW.Trod enc Try.prog W 0 (fun _ => true) true 22 (.slice a len cap) d p) :
    ∃ l : List (Int × Int), PairsAt W a l ∧ l.length = len ∧ len ≤ cap ∧ cap ≤ 9223372036854775807 := by
  obtain ⟨fuel, hf⟩ := h
  obtain ⟨vs, h1, h2, h3, h4, _⟩ := open_wide (enc := enc) Try.underlying22 2 (by kernel_rfl) (fun cs => ∃ a b : Int, cs = [.int .i64 a, .int .i64 b] ∧ In64 a ∧ In64 b) (fun n cs y hy => pair_fuel hy) hf
  obtain ⟨l, e1, e2⟩ := pick_lists (Q := fun (p : Int × Int) (cs : List Value) => cs = [.int .i64 p.1, .int .i64 p.2] ∧ In64 p.1 ∧ In64 p.2) vs (fun u hu => by
    obtain ⟨i, hi⟩ := List.getElem?_of_mem hu
    obtain ⟨a, b, hab, ha, hb⟩ := (h4 i u hi).1
    exact ⟨(a, b), hab, ha, hb⟩)
  refine ⟨l, fun k p hk => ?_, by omega, h2, h3⟩
  obtain ⟨u, g1, rfl, g2, g3⟩ := e2 k p hk
  obtain ⟨_, _, ad, rfl, hcell⟩ := h4 k _ g1
  have hk0 : 0 < l.length := by
    have := (List.getElem?_eq_some_iff.1 hk).1
    omega
  obtain ⟨u0, f1, f2, -, -⟩ := e2 0 _ (List.getElem?_eq_getElem hk0)
  obtain ⟨_, _, ad', e', hcell0⟩ := h4 0 _ f1
  injection e' with e'
  subst e'
  obtain ⟨q1, q2, q3⟩ := pair_cells (hcell0 0 _ (by rw [f2]; rfl)) (hcell 0 _ rfl) (hcell 1 _ rfl)
  exact ⟨ad.block, ad.off, by rw [← q1], q2, q3, g2, g3⟩
end
end Go.Proofs.Ytgoojndpondkmaa
