/- Cmp of layer 1. -/
import Derived.Test.YtampgimmodomoaaDoorDAlign
import Derived.Test.YtampgimmodomoaaDoorDVals
import Derived.Test.YtampgimmodomoaaDoorDPlain
namespace Go.Proofs.YtampgimmodomoaaDoor
open Go Go.RowKit Go.Lib

set_option maxRecDepth 100000 in
set_option maxHeartbeats 6400000 in
theorem cmpD_any (w : World) (a b : Dc) (ha : Ok a) (hb : Ok b) :
    Calls Tryd.prog 29 #[.agg #[.bool a.neg, .string ⟨(dtxt a.n).toArray⟩, .int .i64 (a.s : Int)], .agg #[.bool b.neg, .string ⟨(dtxt b.n).toArray⟩, .int .i64 (b.s : Int)]] w fun e w' => e = .returned (.int .i64 (cmpD a b)) ∧ Kp [] w w' := by
  have hcode := cmp_code ha hb
  have hS60 : max a.s b.s ≤ 60 := by have := ha.2.1; have := hb.2.1; omega
  have ux := up_lt ha hS60
  have uy := up_lt hb hS60
  have la := length_dtxt_le (k := 60) ha.1 (by decide)
  have lb := length_dtxt_le (k := 60) hb.1 (by decide)
  have qA := fun W => aligned_any W a.neg b.neg (dtxt a.n) (dtxt b.n) (digs_dtxt _) (digs_dtxt _) (by omega) (by omega) a.s b.s (by omega) (by omega)
  rw [val_dtxt, val_dtxt] at qA
  have eX : a.n * 10 ^ (max a.s b.s - a.s) = up a (max a.s b.s) := rfl
  have eY : b.n * 10 ^ (max a.s b.s - b.s) = up b (max a.s b.s) := rfl
  simp only [eX, eY] at qA
  obtain ⟨S, hS⟩ : ∃ S, S = max a.s b.s := ⟨_, rfl⟩
  simp only [← hS] at qA hcode hS60 ux uy
  obtain ⟨X, hX⟩ : ∃ X, X = up a S := ⟨_, rfl⟩
  obtain ⟨Y, hY⟩ : ∃ Y, Y = up b S := ⟨_, rfl⟩
  simp only [← hX, ← hY] at qA hcode ux uy
  obtain ⟨O, hO⟩ : ∃ O, O = cmpD a b := ⟨_, rfl⟩
  rw [← hO] at hcode ⊢
  have lX : limLen X ≤ 20 := lim_bound (Nat.lt_of_lt_of_le ux (Nat.pow_le_pow_right (by decide) (by decide)))
  have lY : limLen Y ≤ 20 := lim_bound (Nat.lt_of_lt_of_le uy (Nat.pow_le_pow_right (by decide) (by decide)))
  have qC := fun W A B c d hA hB => cmp_any W A B c d X Y hA hB (by omega) (by omega)
  have hcb : -20 ≤ cmpN X Y ∧ cmpN X Y ≤ 20 := by
    have e1 : (limbs X).length ≤ 20 := lX
    have e2 : (limbs Y).length ≤ 20 := lY
    unfold cmpN
    split
    · omega
    · split
      · omega
      · split <;> omega
  obtain ⟨C, hC⟩ : ∃ C, C = cmpN X Y := ⟨_, rfl⟩
  simp only [← hC] at qC hcode hcb
  obtain ⟨hc1, hc2⟩ := hcb
  obtain ⟨D2, hD2⟩ : ∃ D2, D2 = dtxt b.n := ⟨_, rfl⟩
  obtain ⟨D1, hD1⟩ : ∃ D1, D1 = dtxt a.n := ⟨_, rfl⟩
  obtain ⟨n1, hn1⟩ : ∃ n1, n1 = a.neg := ⟨_, rfl⟩
  obtain ⟨n2, hn2⟩ : ∃ n2, n2 = b.neg := ⟨_, rfl⟩
  obtain ⟨s1, hs1⟩ : ∃ s1, s1 = a.s := ⟨_, rfl⟩
  obtain ⟨s2, hs2⟩ : ∃ s2, s2 = b.s := ⟨_, rfl⟩
  simp only [← hD1, ← hD2, ← hn1, ← hn2, ← hs1, ← hs2] at qA hcode ⊢
  unfold AlPost at qA
  have Hcode := hid hcode
  have h0 := ((Cells.fresh w 23 [.bool n1, .string ⟨D1.toArray⟩, .int .i64 (s1 : Int)]).alloc (.cells #[.bool n2, .string ⟨D2.toArray⟩, .int .i64 (s2 : Int)] 23))
  have h1 := (Cells.fresh1 w (.cells #[.bool n1, .string ⟨D1.toArray⟩, .int .i64 (s1 : Int)] 23) 23 [.bool n2, .string ⟨D2.toArray⟩, .int .i64 (s2 : Int)])
  have H01 := hid (And.intro h0 h1)
  clear hcode ha hb la lb hS hX hY hO hn1 hn2 hD1 hD2 hs1 hs2 eX eY ux uy hS60 lX lY hC h0 h1
  cases n1 <;> cases n2
  all_goals
    go_enter Tryd.func29, Tryd.ntmps29
    go_wp2_with fail
    refine (qA _).mono ?_
    rintro e w1 ⟨A, c, B, d, rfl, NX, NY, k1⟩
    go_wp2_with fail
    refine (qC _ A B c d NX NY).mono ?_
    rintro e w2 ⟨rfl, k2⟩
    have z0 := (k1.nil k2).cell (H01.out.1.cell 0) (by simp)
    have z1 := (k1.nil k2).cell (H01.out.2.cell 0) (by simp)
    have HK := hid (((((Kp.refl [] w).alloc _).alloc _).nil k1).nil k2)
    clear k1 k2 NX NY H01
    go_wp2_with fail
    go_ret
    refine ⟨?_, HK.out⟩
    rw [Hcode.out]
    first
      | rfl
      | (show Ending.returned (.int .i64 (min (-min C 1) 1)) = .returned (.int .i64 (clamp (-C))); unfold clamp; congr 2; omega)
end Go.Proofs.YtampgimmodomoaaDoor
