/- The document's answer for layer 1: the order. -/
import Derived.Test.YtampgimmodomoaaDoorDRAdd
import Derived.Test.YtampgimmodomoaaDoorDSym
namespace Go.Proofs.YtampgimmodomoaaDoor
open Go Go.RowKit Go.Lib

theorem dc_same {a b : Dc} (h1 : a.neg = b.neg) (h2 : dtxt a.n = dtxt b.n) (h3 : (a.s : Int) = (b.s : Int)) : a = b := by
  have e2 : a.n = b.n := dtxt_inj h2
  have e3 : a.s = b.s := by omega
  cases a
  cases b
  simp_all
/-- Two that are not the same: which one is less. -/
def lessB (a b : Dc) : Bool := if a.neg ≠ b.neg then a.neg else if a.neg then decide (up b (max a.s b.s) < up a (max a.s b.s)) else decide (up a (max a.s b.s) < up b (max a.s b.s))
theorem rcmp_code {a b : Dc} (ha : Ok a) (hb : Ok b) (h : a ≠ b) : cmpD a b = if lessB a b then -1 else 1 := by
  have h0 : cmpD a b ≠ 0 := fun e => h ((cmpD_zero ha hb).1 e)
  have hc := cmp_code ha hb
  rw [hc] at h0 ⊢
  unfold lessB
  have hs := cmpN_sign (up a (max a.s b.s)) (up b (max a.s b.s))
  generalize up a (max a.s b.s) = X at *
  generalize up b (max a.s b.s) = Y at *
  generalize cmpN X Y = C at *
  unfold clamp at *
  cases ha2 : a.neg <;> cases hb2 : b.neg <;> simp only [ha2, hb2, ne_eq, not_true_eq_false, not_false_eq_true, if_true, if_false, reduceCtorEq, Bool.false_eq_true, decide_eq_true_eq] at *
  · by_cases hx : X < Y
    · rw [if_pos hx]; omega
    · rw [if_neg hx]; omega
  · rfl
  · rfl
  · by_cases hx : Y < X
    · rw [if_pos hx]; omega
    · rw [if_neg hx]; omega
theorem two_fresh (w : World) (n1 n2 : Bool) (c1 c2 c3 c4 : Value) : ((w.alloc (.cells #[.bool n1, c1, c2] 23)).alloc (.cells #[.bool n2, c3, c4] 23)).cell? ⟨w.heap.size, 0, none⟩ = some (.bool n1) ∧ ((w.alloc (.cells #[.bool n1, c1, c2] 23)).alloc (.cells #[.bool n2, c3, c4] 23)).cell? ⟨w.heap.size + 1, 0, none⟩ = some (.bool n2) :=
  ⟨((Cells.fresh w 23 [.bool n1, c1, c2]).alloc (.cells #[.bool n2, c3, c4] 23)).cell 0, (Cells.fresh1 w (.cells #[.bool n1, c1, c2] 23) 23 [.bool n2, c3, c4]).cell 0⟩
set_option maxRecDepth 100000 in
set_option maxHeartbeats 6400000 in
theorem rcmp_any (w : World) (a b : Dc) (ha : Ok a) (hb : Ok b) :
    Calls Tryd.prog 30 #[.agg #[.bool a.neg, .string ⟨(dtxt a.n).toArray⟩, .int .i64 (a.s : Int)], .agg #[.bool b.neg, .string ⟨(dtxt b.n).toArray⟩, .int .i64 (b.s : Int)]] w fun e w' => e = .returned (.int .i64 (cmpD a b)) ∧ Kp [] w w' := by
  by_cases hab : a = b
  · subst hab
    have h0 := hid ((cmpD_zero ha ha).2 rfl)
    go_enter Tryd.func30, Tryd.ntmps30
    go_wp2_with fail
    all_goals
      go_ret
      refine ⟨?_, ((Kp.refl [] w).alloc _).alloc _⟩
      rw [h0.out]
      rfl
  · obtain ⟨X, Y, S, N, hS, hS60, hN, lX, lY, dX, dY, vX, vY, qA⟩ := al_facts ha hb
    have hcode := rcmp_code ha hb hab
    unfold lessB at hcode
    rw [← hS, ← vX, ← vY] at hcode
    have hl1 := less_val X Y dX dY (by omega)
    have hl2 := less_val Y X dY dX (by omega)
    have hdif : ∀ h1 : a.neg = b.neg, ∀ h2 : dtxt a.n = dtxt b.n, ∀ h3 : (a.s : Int) = (b.s : Int), False := fun h1 h2 h3 => hab (dc_same h1 h2 h3)
    obtain ⟨C, hC⟩ : ∃ C, C = cmpD a b := ⟨_, rfl⟩
    rw [← hC] at hcode ⊢
    obtain ⟨D2, hD2⟩ : ∃ D2, D2 = dtxt b.n := ⟨_, rfl⟩
    obtain ⟨D1, hD1⟩ : ∃ D1, D1 = dtxt a.n := ⟨_, rfl⟩
    obtain ⟨n1, hn1⟩ : ∃ n1, n1 = a.neg := ⟨_, rfl⟩
    obtain ⟨n2, hn2⟩ : ∃ n2, n2 = b.neg := ⟨_, rfl⟩
    obtain ⟨s1, hs1⟩ : ∃ s1, s1 = (a.s : Int) := ⟨_, rfl⟩
    obtain ⟨s2, hs2⟩ : ∃ s2, s2 = (b.s : Int) := ⟨_, rfl⟩
    simp only [← hD1, ← hD2, ← hn1, ← hn2, ← hs1, ← hs2] at qA hcode hdif ⊢
    have Hdif := hid hdif
    clear hC hD1 hD2 hn1 hn2 hs1 hs2 hS vX vY ha hb hab hdif dX dY lX lY hN hS60
    rcases hp : decide (val X < val Y) with _ | _ <;> rcases hq : decide (val Y < val X) with _ | _ <;> rw [hp] at hl1 hcode <;> rw [hq] at hl2 hcode <;> clear hp hq <;> rcases n1 with _ | _ <;> rcases n2 with _ | _ <;> have HC := hid hcode <;> clear hcode
    all_goals
      go_enter Tryd.func30, Tryd.ntmps30
      go_wp2_with fail
    all_goals subst_vars
    all_goals first
      | exact (Hdif.out (by first | trivial | rfl) (by first | trivial | rfl) (by first | trivial | rfl)).elim
      | ((with_reducible refine (qA _).mono ?_)
         rintro e w1 ⟨rfl, k1⟩
         have z0 := k1.cell (two_fresh _ _ _ _ _ _ _).1 (by simp)
         have y0 := k1.cell (two_fresh _ _ _ _ _ _ _).2 (by simp)
         go_wp2_with fail
         go_ret
         exact ⟨by first | rfl | (rw [HC.out]; rfl), (((Kp.refl [] w).alloc _).alloc _).nil k1⟩)
end Go.Proofs.YtampgimmodomoaaDoor
