/- Mul of layer 1. -/
import Derived.Test.YtampgimmodomoaaDoorDArith
import Derived.Deep.RegionHeld3
import Derived.Test.YtampgimmodomoaaDoorDVals
namespace Go.Proofs.YtampgimmodomoaaDoor
open Go Go.RowKit Go.Lib

/-- Both numbers in memory, and room behind them. -/
def Pair (g : Nat) (c1 c2 : List Value) (w : World) : Prop := Cells w g 23 c1 ∧ Cells w (g + 1) 23 c2 ∧ Room (g + 1 + 1) w
theorem Pair.kept {g : Nat} {c1 c2 : List Value} {w w' : World} (h : Pair g c1 c2 w) (k : Kp [] w w') : Pair g c1 c2 w' := ⟨h.1.keep k (by simp), h.2.1.keep k (by simp), h.2.2.kept k⟩
theorem Pair.kd {g : Nat} {c1 c2 : List Value} {w : World} (h : Pair g c1 c2 w) : Pair g c1 c2 w.drew := h
theorem pair_fresh (w : World) (c1 c2 : List Value) (c5 c6 c7 : Value) : Pair w.heap.size c1 c2 (((w.alloc (.cells c1.toArray 23)).alloc (.cells c2.toArray 23)).alloc (.cells #[c5, c6, c7] 23)) := by
  have h0 := ((Cells.fresh w 23 c1).alloc (.cells c2.toArray 23)).alloc (.cells #[c5, c6, c7] 23)
  have h1 := (Cells.fresh1 w (.cells c1.toArray 23) 23 c2).alloc (.cells #[c5, c6, c7] 23)
  have h2 := Cells.fresh1 (w.alloc (.cells c1.toArray 23)) (.cells c2.toArray 23) 23 [c5, c6, c7]
  have e : (w.alloc (.cells c1.toArray 23)).heap.size = w.heap.size + 1 := by simp
  rw [e] at h2
  exact ⟨h0, h1, ⟨_, h2, rfl⟩⟩
theorem far0j {w : World} {g j : Nat} {a b c v : Value} (h : w.cell? ⟨g, j, none⟩ = some v) : (((w.setCell ⟨g + 1 + 1, 0, none⟩ a).setCell ⟨g + 1 + 1, 1, none⟩ b).setCell ⟨g + 1 + 1, 2, none⟩ c).cell? ⟨g, j, none⟩ = some v := far_room a b c h (by simp; omega)
theorem far1j {w : World} {g j : Nat} {a b c v : Value} (h : w.cell? ⟨g + 1, j, none⟩ = some v) : (((w.setCell ⟨g + 1 + 1, 0, none⟩ a).setCell ⟨g + 1 + 1, 1, none⟩ b).setCell ⟨g + 1 + 1, 2, none⟩ c).cell? ⟨g + 1, j, none⟩ = some v := far_room a b c h (by simp)
theorem NatA.kept {w w' : World} {A : Option Addr} {c n : Nat} (h : NatA w A c n) (k : Kp [] w w') : NatA w' A c n := LimA.kept h k
theorem timesN (w : World) (A B : Option Addr) (c d a b : Nat) (ha : NatA w A c a) (hb : NatA w B d b) (h1 : limLen a ≤ 10000) (h2 : limLen b ≤ 10000) : Calls Tryd.prog 54 #[.slice A (limLen a) c, .slice B (limLen b) d] w (NatPost w (a * b)) := by
  have h := times_any w A B c d _ _ (limLen a) (limLen b) rfl rfl ha hb (lims_limbs a) (lims_limbs b) h1 h2
  rw [lval_limbs, lval_limbs] at h
  exact h
set_option maxRecDepth 100000 in
set_option maxHeartbeats 12800000 in
theorem mul_gen (w : World) (n1 n2 : Bool) (D1 D2 : List UInt8) (s1 s2 : Nat) (hD1 : Digs D1) (hD2 : Digs D2) (la : D1.length ≤ 60) (lb : D2.length ≤ 60) (hs1 : s1 ≤ 60) (hs2 : s2 ≤ 60) :
    Calls Tryd.prog 22 #[.agg #[.bool n1, .string ⟨D1.toArray⟩, .int .i64 (s1 : Int)], .agg #[.bool n2, .string ⟨D2.toArray⟩, .int .i64 (s2 : Int)]] w (DecPost w (norm (n1 != n2) (val D1 * val D2) (s1 + s2))) := by
  have q1 := fun W => natOf_any W D1 hD1 (by omega)
  have q2 := fun W => natOf_any W D2 hD2 (by omega)
  have ux : val D1 < 10 ^ 60 := Nat.lt_of_lt_of_le (val_lt D1 hD1) (Nat.pow_le_pow_right (by decide) la)
  have uy : val D2 < 10 ^ 60 := Nat.lt_of_lt_of_le (val_lt D2 hD2) (Nat.pow_le_pow_right (by decide) lb)
  obtain ⟨X, hX⟩ : ∃ X, X = val D1 := ⟨_, rfl⟩
  obtain ⟨Y, hY⟩ : ∃ Y, Y = val D2 := ⟨_, rfl⟩
  obtain ⟨O, hO⟩ : ∃ O, O = norm (n1 != n2) (val D1 * val D2) (s1 + s2) := ⟨_, rfl⟩
  have hcode := hO
  rw [← hO]
  simp only [← hX, ← hY] at hcode q1 q2 ux uy
  have lX : limLen X ≤ 20 := lim_bound (Nat.lt_of_lt_of_le ux (Nat.pow_le_pow_right (by decide) (by decide)))
  have lY : limLen Y ≤ 20 := lim_bound (Nat.lt_of_lt_of_le uy (Nat.pow_le_pow_right (by decide) (by decide)))
  have lR : limLen (X * Y) ≤ 20 := by
    refine lim_bound ?_
    have h1 : X * Y ≤ 10 ^ 60 * 10 ^ 60 := Nat.mul_le_mul (Nat.le_of_lt ux) (Nat.le_of_lt uy)
    exact Nat.lt_of_le_of_lt h1 (by decide)
  have qP := fun W A B c d hP hQ => timesN W A B c d X Y hP hQ (by omega) (by omega)
  have vall := val_all (X * Y)
  have e9 : (limbs (X * Y)).length = limLen (X * Y) := rfl
  rw [e9] at vall
  have hdg := digs_digN (limLen (X * Y) * 9) (X * Y)
  have hlg := length_digN (limLen (X * Y) * 9) (X * Y)
  have qD := fun W A c hW => digitsN W A c (X * Y) hW (by omega)
  obtain ⟨J, hJ⟩ : ∃ J, J = digN (limLen (X * Y) * 9) (X * Y) := ⟨_, rfl⟩
  simp only [← hJ] at qD vall hdg hlg
  obtain ⟨R, hR⟩ : ∃ R, R = X * Y := ⟨_, rfl⟩
  simp only [← hR] at qP qD vall hcode lR hlg
  obtain ⟨N, hN⟩ : ∃ N, N = (n1 != n2) := ⟨_, rfl⟩
  rw [← hN] at hcode
  have hNe : (!(n1 == n2)) = N := hN.symm
  obtain ⟨S, hS⟩ : ∃ S, S = s1 + s2 := ⟨_, rfl⟩
  rw [← hS] at hcode
  have w1 : IntKind.i64.wrap ((s1 : Int) + (s2 : Int)) = (S : Int) := by rw [IntWalk.i64_in _ (by omega)]; omega
  unfold NatPost at q1 q2 qP
  have hJ9 : J.length ≤ 1000000 := by omega
  have hS9 : S ≤ 1000000 := by omega
  have HP := hid (And.intro (pair_fresh w [.bool n1, .string ⟨D1.toArray⟩, .int .i64 (s1 : Int)] [.bool n2, .string ⟨D2.toArray⟩, .int .i64 (s2 : Int)] (.bool false) (.string ⟨#[]⟩) (.int .i64 0))
    ((((Kp.refl [] w).alloc (.cells #[.bool n1, .string ⟨D1.toArray⟩, .int .i64 (s1 : Int)] 23)).alloc (.cells #[.bool n2, .string ⟨D2.toArray⟩, .int .i64 (s2 : Int)] 23)).alloc (.cells #[.bool false, .string ⟨#[]⟩, .int .i64 0] 23)))
  clear hX hY hD1 hD2 hO la lb ux uy hJ hR hN hS hs1 hs2 e9 hlg lX lY lR
  rcases hM : norm N R S with _ | r
  · have qM := fun W => made_none_sure hdg hJ9 hS9 (show norm N (val J) S = none by rw [vall]; exact hM) W
    have HN : Hid (O = none) := by rw [hcode, hM]; exact hid rfl
    clear hM hcode hdg vall hJ9 hS9
    go_enter Tryd.func22, Tryd.ntmps22
    go_wp2_with fail
    obtain ⟨W0, hW0⟩ : ∃ W0, W0 = (((w.alloc (.cells #[.bool n1, .string ⟨D1.toArray⟩, .int .i64 (s1 : Int)] 23)).alloc (.cells #[.bool n2, .string ⟨D2.toArray⟩, .int .i64 (s2 : Int)] 23)).alloc (.cells #[.bool false, .string ⟨#[]⟩, .int .i64 0] 23)) := ⟨_, rfl⟩
    have HP0 : Hid (Pair w.heap.size [.bool n1, .string ⟨D1.toArray⟩, .int .i64 (s1 : Int)] [.bool n2, .string ⟨D2.toArray⟩, .int .i64 (s2 : Int)] W0 ∧ Kp [] w W0) := by rw [hW0]; exact hid HP.out
    rw [← hW0]
    clear hW0 HP
    have x0 : W0.cell? ⟨w.heap.size, 1, none⟩ = some (.string ⟨D1.toArray⟩) := HP0.out.1.1.cell 1
    have x1 : W0.cell? ⟨w.heap.size + 1, 1, none⟩ = some (.string ⟨D2.toArray⟩) := HP0.out.1.2.1.cell 1
    go_region_held3 (fun w' => w'.cell? ⟨w.heap.size, 1, none⟩ = some (.string ⟨D1.toArray⟩) ∧ w'.cell? ⟨w.heap.size + 1, 1, none⟩ = some (.string ⟨D2.toArray⟩))
      (first | exact ⟨t0, t1⟩ | exact ⟨u0, u1⟩ | exact ⟨y0, y1⟩ | exact ⟨x0, x1⟩ | go_keep)
      (first
      | (go_at_call 53; (with_reducible refine (q1 _).mono ?_); rintro e w3 ⟨A3, d3, rfl, N3, k3⟩; have y0 := k3.cell x0 (by simp); have y1 := k3.cell x1 (by simp))
      | (go_at_call 53; (with_reducible refine (q2 _).mono ?_); rintro e w4 ⟨A4, d4, rfl, N4, k4⟩; have u0 := k4.cell y0 (by simp); have u1 := k4.cell y1 (by simp))
      | (go_at_call 54; (with_reducible refine (qP _ A3 A4 d3 d4 (NatA.kept N3 k4) N4).mono ?_); rintro e w5 ⟨A5, d5, rfl, N5, k5⟩; have t0 := k5.cell u0 (by simp); have t1 := k5.cell u1 (by simp)))
    have KK := ((HP0.out.2.drew.nil k3).nil k4).nil k5
    have PP := (((HP0.out.1.kept (Kp.refl [] W0).drew).kept k3).kept k4).kept k5
    have HP5 := hid (And.intro PP.kd KK.drew)
    have N5d : NatA w5.drew A5 d5 R := N5
    have HN5 := hid N5d
    have z0 : w5.cell? ⟨w.heap.size, 0, none⟩ = some (.bool n1) := PP.1.cell 0
    have z1 : w5.cell? ⟨w.heap.size + 1, 0, none⟩ = some (.bool n2) := PP.2.1.cell 0
    have z2 : w5.cell? ⟨w.heap.size, 2, none⟩ = some (.int .i64 (s1 : Int)) := PP.1.cell 2
    have z3 : w5.cell? ⟨w.heap.size + 1, 2, none⟩ = some (.int .i64 (s2 : Int)) := PP.2.1.cell 2
    clear KK PP N5 N5d N3 N4 k3 k4 k5 x0 x1 y0 y1 u0 u1 t0 t1 HP0 q1 q2 qP
    go_wp2_with fail
    go_region_held3 (fun w' => w'.cell? ⟨w.heap.size, 0, none⟩ = some (.bool n1) ∧ w'.cell? ⟨w.heap.size + 1, 0, none⟩ = some (.bool n2) ∧ w'.cell? ⟨w.heap.size, 2, none⟩ = some (.int .i64 (s1 : Int)) ∧ w'.cell? ⟨w.heap.size + 1, 2, none⟩ = some (.int .i64 (s2 : Int)))
      (first | exact ⟨far0j v0, far1j v1, far0j v2, far1j v3⟩ | exact ⟨v0, v1, v2, v3⟩ | exact ⟨y0, y1, y2, y3⟩ | exact ⟨z0, z1, z2, z3⟩ | go_keep)
      (first
      | (go_at_call 55; (with_reducible refine (qD _ A5 d5 HN5.out).mono ?_); rintro e w6 ⟨rfl, k6⟩; have P6 := HP5.out.1.kept k6; have y0 := P6.1.cell 0; have y1 := P6.2.1.cell 0; have y2 := P6.1.cell 2; have y3 := P6.2.1.cell 2)
      | (go_at_call 52; (with_reducible refine (qM _).mono ?_); rintro e w7 ⟨rfl, k7⟩; have P7 := P6.kept k7; have v0 := P7.1.cell 0; have v1 := P7.2.1.cell 0; have v2 := P7.1.cell 2; have v3 := P7.2.1.cell 2; obtain ⟨x0, x1, x2, c0, c1, c2, f0, f1, f2⟩ := P7.2.2.cells))
    all_goals
      have KK := (HP5.out.2.nil k6).nil k7
      have HK := hid KK
      clear KK
      go_wp2_with fail
      exact bodyPost_ret (v := .tuple #[.agg #[.bool false, .string ⟨#[]⟩, .int .i64 0], .int .i64 3]) (by simp [results, Tryd.results22, go_sem, c0, c1, c2]) rfl (dec_big (kp_room2 HK.out _ _ _) HN.out)
  · have qM := fun W => made_some_sure hdg hJ9 hS9 (show norm N (val J) S = some r by rw [vall]; exact hM) W
    have HN : Hid (O = some r) := by rw [hcode, hM]; exact hid rfl
    clear hM hcode hdg vall hJ9 hS9
    go_enter Tryd.func22, Tryd.ntmps22
    go_wp2_with fail
    obtain ⟨W0, hW0⟩ : ∃ W0, W0 = (((w.alloc (.cells #[.bool n1, .string ⟨D1.toArray⟩, .int .i64 (s1 : Int)] 23)).alloc (.cells #[.bool n2, .string ⟨D2.toArray⟩, .int .i64 (s2 : Int)] 23)).alloc (.cells #[.bool false, .string ⟨#[]⟩, .int .i64 0] 23)) := ⟨_, rfl⟩
    have HP0 : Hid (Pair w.heap.size [.bool n1, .string ⟨D1.toArray⟩, .int .i64 (s1 : Int)] [.bool n2, .string ⟨D2.toArray⟩, .int .i64 (s2 : Int)] W0 ∧ Kp [] w W0) := by rw [hW0]; exact hid HP.out
    rw [← hW0]
    clear hW0 HP
    have x0 : W0.cell? ⟨w.heap.size, 1, none⟩ = some (.string ⟨D1.toArray⟩) := HP0.out.1.1.cell 1
    have x1 : W0.cell? ⟨w.heap.size + 1, 1, none⟩ = some (.string ⟨D2.toArray⟩) := HP0.out.1.2.1.cell 1
    go_region_held3 (fun w' => w'.cell? ⟨w.heap.size, 1, none⟩ = some (.string ⟨D1.toArray⟩) ∧ w'.cell? ⟨w.heap.size + 1, 1, none⟩ = some (.string ⟨D2.toArray⟩))
      (first | exact ⟨t0, t1⟩ | exact ⟨u0, u1⟩ | exact ⟨y0, y1⟩ | exact ⟨x0, x1⟩ | go_keep)
      (first
      | (go_at_call 53; (with_reducible refine (q1 _).mono ?_); rintro e w3 ⟨A3, d3, rfl, N3, k3⟩; have y0 := k3.cell x0 (by simp); have y1 := k3.cell x1 (by simp))
      | (go_at_call 53; (with_reducible refine (q2 _).mono ?_); rintro e w4 ⟨A4, d4, rfl, N4, k4⟩; have u0 := k4.cell y0 (by simp); have u1 := k4.cell y1 (by simp))
      | (go_at_call 54; (with_reducible refine (qP _ A3 A4 d3 d4 (NatA.kept N3 k4) N4).mono ?_); rintro e w5 ⟨A5, d5, rfl, N5, k5⟩; have t0 := k5.cell u0 (by simp); have t1 := k5.cell u1 (by simp)))
    have KK := ((HP0.out.2.drew.nil k3).nil k4).nil k5
    have PP := (((HP0.out.1.kept (Kp.refl [] W0).drew).kept k3).kept k4).kept k5
    have HP5 := hid (And.intro PP.kd KK.drew)
    have N5d : NatA w5.drew A5 d5 R := N5
    have HN5 := hid N5d
    have z0 : w5.cell? ⟨w.heap.size, 0, none⟩ = some (.bool n1) := PP.1.cell 0
    have z1 : w5.cell? ⟨w.heap.size + 1, 0, none⟩ = some (.bool n2) := PP.2.1.cell 0
    have z2 : w5.cell? ⟨w.heap.size, 2, none⟩ = some (.int .i64 (s1 : Int)) := PP.1.cell 2
    have z3 : w5.cell? ⟨w.heap.size + 1, 2, none⟩ = some (.int .i64 (s2 : Int)) := PP.2.1.cell 2
    clear KK PP N5 N5d N3 N4 k3 k4 k5 x0 x1 y0 y1 u0 u1 t0 t1 HP0 q1 q2 qP
    go_wp2_with fail
    go_region_held3 (fun w' => w'.cell? ⟨w.heap.size, 0, none⟩ = some (.bool n1) ∧ w'.cell? ⟨w.heap.size + 1, 0, none⟩ = some (.bool n2) ∧ w'.cell? ⟨w.heap.size, 2, none⟩ = some (.int .i64 (s1 : Int)) ∧ w'.cell? ⟨w.heap.size + 1, 2, none⟩ = some (.int .i64 (s2 : Int)))
      (first | exact ⟨far0j v0, far1j v1, far0j v2, far1j v3⟩ | exact ⟨v0, v1, v2, v3⟩ | exact ⟨y0, y1, y2, y3⟩ | exact ⟨z0, z1, z2, z3⟩ | go_keep)
      (first
      | (go_at_call 55; (with_reducible refine (qD _ A5 d5 HN5.out).mono ?_); rintro e w6 ⟨rfl, k6⟩; have P6 := HP5.out.1.kept k6; have y0 := P6.1.cell 0; have y1 := P6.2.1.cell 0; have y2 := P6.1.cell 2; have y3 := P6.2.1.cell 2)
      | (go_at_call 52; (with_reducible refine (qM _).mono ?_); rintro e w7 ⟨rfl, k7⟩; have P7 := P6.kept k7; have v0 := P7.1.cell 0; have v1 := P7.2.1.cell 0; have v2 := P7.1.cell 2; have v3 := P7.2.1.cell 2; obtain ⟨x0, x1, x2, c0, c1, c2, f0, f1, f2⟩ := P7.2.2.cells))
    all_goals
      have KK := (HP5.out.2.nil k6).nil k7
      have HK := hid KK
      clear KK
      go_wp2_with fail
      exact bodyPost_ret (v := .tuple #[.agg #[.bool r.neg, .string ⟨(dtxt r.n).toArray⟩, .int .i64 (r.s : Int)], .int .i64 0]) (by simp [results, Tryd.results22, go_sem, c0, c1, c2]) rfl (dec_dec (kp_room2 HK.out _ _ _) HN.out)
theorem mul_any (w : World) (a b : Dc) (ha : Ok a) (hb : Ok b) :
    Calls Tryd.prog 22 #[.agg #[.bool a.neg, .string ⟨(dtxt a.n).toArray⟩, .int .i64 (a.s : Int)], .agg #[.bool b.neg, .string ⟨(dtxt b.n).toArray⟩, .int .i64 (b.s : Int)]] w (DecPost w (mulD a b)) := by
  have h := mul_gen w a.neg b.neg (dtxt a.n) (dtxt b.n) a.s b.s (digs_dtxt _) (digs_dtxt _) (length_dtxt_le ha.1 (by decide)) (length_dtxt_le hb.1 (by decide)) ha.2.1 hb.2.1
  rw [val_dtxt, val_dtxt, ← mul_code] at h
  exact h
end Go.Proofs.YtampgimmodomoaaDoor
