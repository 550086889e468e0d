/- The document's answer for layer 1: the order. -/
import Derived.Test.YtampgimmodomoaaGreatDoorDRAdd
import Derived.Test.YtampgimmodomoaaGreatDoorDSym
namespace Go.Proofs.YtampgimmodomoaaGreatDoor
open Go Go.RowKit Go.Lib

theorem dc_same {a b : Dc} (h1 : a.neg = b.neg) (h2 : dtxt a.n = dtxt b.n) (h3 : (a.s : Int) = (b.s : Int)) : a = b := by
  have e2 : a.n = b.n := dtxt_inj h2
  have e3 : a.s = b.s := by omega
  cases a
  cases b
  simp_all
/-- Two that are not the same: which one is less. -/
def lessB (a b : Dc) : Bool := if a.neg ≠ b.neg then a.neg else if a.neg then decide (up b (max a.s b.s) < up a (max a.s b.s)) else decide (up a (max a.s b.s) < up b (max a.s b.s))
theorem rcmp_code {a b : Dc} (ha : Ok a) (hb : Ok b) (h : a ≠ b) : cmpD a b = if lessB a b then -1 else 1 := by
  have h0 : cmpD a b ≠ 0 := fun e => h ((cmpD_zero ha hb).1 e)
  have hc := cmp_code ha hb
  rw [hc] at h0 ⊢
  unfold lessB
  have hs := cmpN_sign (up a (max a.s b.s)) (up b (max a.s b.s))
  generalize up a (max a.s b.s) = X at *
  generalize up b (max a.s b.s) = Y at *
  generalize cmpN X Y = C at *
  unfold clamp at *
  cases ha2 : a.neg <;> cases hb2 : b.neg <;> simp only [ha2, hb2, ne_eq, not_true_eq_false, not_false_eq_true, if_true, if_false, reduceCtorEq, Bool.false_eq_true, decide_eq_true_eq] at *
  · by_cases hx : X < Y
    · rw [if_pos hx]; omega
    · rw [if_neg hx]; omega
  · rfl
  · rfl
  · by_cases hx : Y < X
    · rw [if_pos hx]; omega
    · rw [if_neg hx]; omega
theorem two_fresh (w : World) (n1 n2 : Bool) (c1 c2 c3 c4 : Value) : ((w.alloc (.cells #[.bool n1, c1, c2] 23)).alloc (.cells #[.bool n2, c3, c4] 23)).cell? ⟨w.heap.size, 0, none⟩ = some (.bool n1) ∧ ((w.alloc (.cells #[.bool n1, c1, c2] 23)).alloc (.cells #[.bool n2, c3, c4] 23)).cell? ⟨w.heap.size + 1, 0, none⟩ = some (.bool n2) :=
  ⟨((Cells.fresh w 23 [.bool n1, c1, c2]).alloc (.cells #[.bool n2, c3, c4] 23)).cell 0, (Cells.fresh1 w (.cells #[.bool n1, c1, c2] 23) 23 [.bool n2, c3, c4]).cell 0⟩
end Go.Proofs.YtampgimmodomoaaGreatDoor
