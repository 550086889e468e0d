/- Add of layer 1. -/
import Derived.Test.YtampgimmodomoaaDoorDAlign
import Derived.Test.YtampgimmodomoaaDoorDVals
import Derived.Test.YtampgimmodomoaaDoorDArith
import Derived.Deep.RegionHeld3
namespace Go.Proofs.YtampgimmodomoaaDoor
open Go Go.RowKit Go.Lib

set_option maxRecDepth 100000 in
set_option maxHeartbeats 12800000 in
theorem add_any (w : World) (a b : Dc) (ha : Ok a) (hb : Ok b) :
    Calls Tryd.prog 24 #[.agg #[.bool a.neg, .string ⟨(dtxt a.n).toArray⟩, .int .i64 (a.s : Int)], .agg #[.bool b.neg, .string ⟨(dtxt b.n).toArray⟩, .int .i64 (b.s : Int)]] w (DecPost w (addD a b)) := by
  have hcode := add_code a b
  have hS60 : max a.s b.s ≤ 60 := by have := ha.2.1; have := hb.2.1; omega
  have ux := up_lt ha hS60
  have uy := up_lt hb hS60
  have la := length_dtxt_le (k := 60) ha.1 (by decide)
  have lb := length_dtxt_le (k := 60) hb.1 (by decide)
  have qA := fun W => aligned_any W a.neg b.neg (dtxt a.n) (dtxt b.n) (digs_dtxt _) (digs_dtxt _) (by omega) (by omega) a.s b.s (by omega) (by omega)
  rw [val_dtxt, val_dtxt] at qA
  have eX : a.n * 10 ^ (max a.s b.s - a.s) = up a (max a.s b.s) := rfl
  have eY : b.n * 10 ^ (max a.s b.s - b.s) = up b (max a.s b.s) := rfl
  simp only [eX, eY] at qA
  obtain ⟨S, hS⟩ : ∃ S, S = max a.s b.s := ⟨_, rfl⟩
  simp only [← hS] at qA hcode hS60 ux uy
  obtain ⟨X, hX⟩ : ∃ X, X = up a S := ⟨_, rfl⟩
  obtain ⟨Y, hY⟩ : ∃ Y, Y = up b S := ⟨_, rfl⟩
  simp only [← hX, ← hY] at qA hcode ux uy
  obtain ⟨O, hO⟩ : ∃ O, O = addD a b := ⟨_, rfl⟩
  rw [← hO] at hcode ⊢
  obtain ⟨n1, hn1⟩ : ∃ n1, n1 = a.neg := ⟨_, rfl⟩
  obtain ⟨n2, hn2⟩ : ∃ n2, n2 = b.neg := ⟨_, rfl⟩
  simp only [← hn1, ← hn2] at qA hcode ⊢
  obtain ⟨D1, hD1⟩ : ∃ D1, D1 = dtxt a.n := ⟨_, rfl⟩
  obtain ⟨D2, hD2⟩ : ∃ D2, D2 = dtxt b.n := ⟨_, rfl⟩
  obtain ⟨s1, hs1⟩ : ∃ s1, s1 = a.s := ⟨_, rfl⟩
  obtain ⟨s2, hs2⟩ : ∃ s2, s2 = b.s := ⟨_, rfl⟩
  simp only [← hD1, ← hD2, ← hs1, ← hs2] at qA ⊢
  unfold AlPost at qA
  have lX : limLen X ≤ 20 := lim_bound (Nat.lt_of_lt_of_le ux (Nat.pow_le_pow_right (by decide) (by decide)))
  have lY : limLen Y ≤ 20 := lim_bound (Nat.lt_of_lt_of_le uy (Nat.pow_le_pow_right (by decide) (by decide)))
  have lXY : limLen (X + Y) ≤ 20 := lim_bound (Nat.lt_of_lt_of_le (Nat.add_lt_add ux uy) (by decide))
  have Hcode := hid hcode
  clear hcode ha hb la lb hS hX hY hO hn1 hn2 hD1 hD2 hs1 hs2 eX eY ux uy
  have hW0 := three_fresh w n1 n2 (.string ⟨D1.toArray⟩) (.int .i64 (s1 : Int)) (.string ⟨D2.toArray⟩) (.int .i64 (s2 : Int)) (.bool false) (.string ⟨#[]⟩) (.int .i64 0)
  have hK0 := (((Kp.refl [] w).alloc (.cells #[.bool n1, .string ⟨D1.toArray⟩, .int .i64 (s1 : Int)] 23)).alloc (.cells #[.bool n2, .string ⟨D2.toArray⟩, .int .i64 (s2 : Int)] 23)).alloc (.cells #[.bool false, .string ⟨#[]⟩, .int .i64 0] 23)
  have HW0 := hid (And.intro hW0 hK0)
  clear hW0 hK0
  go_enter Tryd.func24, Tryd.ntmps24
  go_wp2_with fail
  refine (qA _).mono ?_
  rintro e w1 ⟨A, c, B, d, rfl, NX, NY, k1⟩
  have T1 := HW0.out.1.kept k1
  have K1 := hid (HW0.out.2.nil k1)
  have NXd : NatA w1.drew A c X := NX
  have NYd : NatA w1.drew B d Y := NY
  have TD := hid (show Three w.heap.size n1 n2 w1.drew from T1)
  obtain ⟨⟨z0, z1⟩, -⟩ := T1
  have ND := hid (And.intro NXd NYd)
  have N1 := hid (And.intro NX NY)
  clear NXd NYd NX NY k1 HW0 qA
  by_cases hnn : n1 = n2
  · obtain rfl : n1 = n2 := hnn
    have hb : (n1 == n1) = true := by rw [beq_iff_eq]
    have lR := lXY
    rcases hN : norm n1 (X + Y) S with _ | r
    · have qM := fun W => made_none_sure (digs_digN (limLen (X + Y) * 9) (X + Y)) (by rw [length_digN]; omega) (by omega) (show norm n1 (val (digN (limLen (X + Y) * 9) (X + Y))) S = none by rw [show val (digN (limLen (X + Y) * 9) (X + Y)) = X + Y from val_all _]; exact hN) W
      have HN : Hid (O = none) := by rw [Hcode.out, if_pos rfl]; exact hid hN
      obtain ⟨J, hJ⟩ : ∃ J, J = digN (limLen (X + Y) * 9) (X + Y) := ⟨_, rfl⟩
      have qD := fun W A c hW => digitsN W A c (X + Y) hW (by omega)
      simp only [← hJ] at qM qD
      obtain ⟨R, hR⟩ : ∃ R, R = X + Y := ⟨_, rfl⟩
      have qP := fun W hP hQ => plusN W A B c d X Y hP hQ (by omega) (by omega)
      unfold NatPost at qP
      simp only [← hR] at qP qD
      clear hJ hR hN
      go_wp2_with fail
      go_region_held3 (fun w' => w'.cell? ⟨w.heap.size, 0, none⟩ = some (.bool n1) ∧ w'.cell? ⟨w.heap.size + 1, 0, none⟩ = some (.bool n1))
        (first | exact ⟨far0 v0, far1 v1⟩ | exact ⟨v0, v1⟩ | exact ⟨u0, u1⟩ | exact ⟨y0, y1⟩ | go_keep)
        (first
        | (go_at_call 58; (with_reducible refine (qP _ ND.out.1 ND.out.2).mono ?_); rintro e w3 ⟨A3, d3, rfl, N3, k3⟩; obtain ⟨⟨y0, y1⟩, R3⟩ := TD.out.kept k3)
        | (go_at_call 55; (with_reducible refine (qD _ A3 d3 N3).mono ?_); rintro e w4 ⟨rfl, k4⟩; have u0 := k4.cell y0 (by simp); have u1 := k4.cell y1 (by simp))
        | (go_at_call 52; (with_reducible refine (qM _).mono ?_); rintro e w5 ⟨rfl, k5⟩; obtain ⟨x0, x1, x2, c0, c1, c2, f0, f1, f2⟩ := ((R3.kept k4).kept k5).cells; have v0 := k5.cell u0 (by simp); have v1 := k5.cell u1 (by simp)))
      all_goals
        have KK := ((K1.out.drew.nil k3).nil k4).nil k5
        have HK := hid KK
        clear KK
        go_wp2_with fail
        exact bodyPost_ret (v := .tuple #[.agg #[.bool false, .string ⟨#[]⟩, .int .i64 0], .int .i64 3]) (by simp [results, Tryd.results24, go_sem, c0, c1, c2]) rfl (dec_big (kp_room2 HK.out _ _ _) HN.out)
    · have qM := fun W => made_some_sure (digs_digN (limLen (X + Y) * 9) (X + Y)) (by rw [length_digN]; omega) (by omega) (show norm n1 (val (digN (limLen (X + Y) * 9) (X + Y))) S = some r by rw [show val (digN (limLen (X + Y) * 9) (X + Y)) = X + Y from val_all _]; exact hN) W
      have HN : Hid (O = some r) := by rw [Hcode.out, if_pos rfl]; exact hid hN
      obtain ⟨J, hJ⟩ : ∃ J, J = digN (limLen (X + Y) * 9) (X + Y) := ⟨_, rfl⟩
      have qD := fun W A c hW => digitsN W A c (X + Y) hW (by omega)
      simp only [← hJ] at qM qD
      obtain ⟨R, hR⟩ : ∃ R, R = X + Y := ⟨_, rfl⟩
      have qP := fun W hP hQ => plusN W A B c d X Y hP hQ (by omega) (by omega)
      unfold NatPost at qP
      simp only [← hR] at qP qD
      clear hJ hR hN
      go_wp2_with fail
      go_region_held3 (fun w' => w'.cell? ⟨w.heap.size, 0, none⟩ = some (.bool n1) ∧ w'.cell? ⟨w.heap.size + 1, 0, none⟩ = some (.bool n1))
        (first | exact ⟨far0 v0, far1 v1⟩ | exact ⟨v0, v1⟩ | exact ⟨u0, u1⟩ | exact ⟨y0, y1⟩ | go_keep)
        (first
        | (go_at_call 58; (with_reducible refine (qP _ ND.out.1 ND.out.2).mono ?_); rintro e w3 ⟨A3, d3, rfl, N3, k3⟩; obtain ⟨⟨y0, y1⟩, R3⟩ := TD.out.kept k3)
        | (go_at_call 55; (with_reducible refine (qD _ A3 d3 N3).mono ?_); rintro e w4 ⟨rfl, k4⟩; have u0 := k4.cell y0 (by simp); have u1 := k4.cell y1 (by simp))
        | (go_at_call 52; (with_reducible refine (qM _).mono ?_); rintro e w5 ⟨rfl, k5⟩; obtain ⟨x0, x1, x2, c0, c1, c2, f0, f1, f2⟩ := ((R3.kept k4).kept k5).cells; have v0 := k5.cell u0 (by simp); have v1 := k5.cell u1 (by simp)))
      all_goals
        have KK := ((K1.out.drew.nil k3).nil k4).nil k5
        have HK := hid KK
        clear KK
        go_wp2_with fail
        exact bodyPost_ret (v := .tuple #[.agg #[.bool r.neg, .string ⟨(dtxt r.n).toArray⟩, .int .i64 (r.s : Int)], .int .i64 0]) (by simp [results, Tryd.results24, go_sem, c0, c1, c2]) rfl (dec_dec (kp_room2 HK.out _ _ _) HN.out)
  · have hb : (n1 == n2) = false := by rw [beq_eq_false_iff_ne]; exact hnn
    have Hnn := hid hnn
    have qC := fun W hA hB => cmp_any W A B c d X Y hA hB (by omega) (by omega)
    have hcs := cmpN_sign X Y
    obtain ⟨C, hC⟩ : ∃ C, C = cmpN X Y := ⟨_, rfl⟩
    simp only [← hC] at qC hcs
    clear hC hnn lXY
    by_cases hle : Y ≤ X
    · have hC0 : 0 ≤ C := by omega
      have lR : limLen (X - Y) ≤ 20 := Nat.le_trans (limLen_le (Nat.sub_le _ _)) lX
      have Hle := hid hle
      clear hcs hle
      rcases hN : norm n1 (X - Y) S with _ | r
      · have qM := fun W => made_none_sure (digs_digN (limLen (X - Y) * 9) (X - Y)) (by rw [length_digN]; omega) (by omega) (show norm n1 (val (digN (limLen (X - Y) * 9) (X - Y))) S = none by rw [show val (digN (limLen (X - Y) * 9) (X - Y)) = X - Y from val_all _]; exact hN) W
        have HN : Hid (O = none) := by rw [Hcode.out, if_neg Hnn.out, if_pos Hle.out]; exact hid hN
        obtain ⟨J, hJ⟩ : ∃ J, J = digN (limLen (X - Y) * 9) (X - Y) := ⟨_, rfl⟩
        have qD := fun W A c hW => digitsN W A c (X - Y) hW (by omega)
        simp only [← hJ] at qM qD
        obtain ⟨R, hR⟩ : ∃ R, R = X - Y := ⟨_, rfl⟩
        have qP := fun W hP hQ => minusN W A B c d X Y hP hQ (by omega) Hle.out
        unfold NatPost at qP
        simp only [← hR] at qP qD
        clear hJ hR hN
        go_wp2_with fail
        refine (qC _ N1.out.1 N1.out.2).mono ?_
        rintro e w2 ⟨rfl, k2⟩
        have hz0 := k2.cell z0 (by simp)
        have hz1 := k2.cell z1 (by simp)
        have TD2 := hid (show Three w.heap.size n1 n2 w2.drew from (show Three w.heap.size n1 n2 w1 from TD.out).kept k2.drew)
        have N2 := hid (And.intro (show NatA w2.drew A c X from LimA.kept N1.out.1 k2.drew) (show NatA w2.drew B d Y from LimA.kept N1.out.2 k2.drew))
        have K2 := hid (K1.out.nil k2)
        clear k2 z0 z1
        go_wp2_with fail
        go_region_held3 (fun w' => w'.cell? ⟨w.heap.size, 0, none⟩ = some (.bool n1) ∧ w'.cell? ⟨w.heap.size + 1, 0, none⟩ = some (.bool n2))
          (first | exact ⟨far0 v0, far1 v1⟩ | exact ⟨v0, v1⟩ | exact ⟨u0, u1⟩ | exact ⟨y0, y1⟩ | go_keep)
          (first
          | (go_at_call 60; (with_reducible refine (qP _ N2.out.1 N2.out.2).mono ?_); rintro e w3 ⟨A3, d3, rfl, N3, k3⟩; obtain ⟨⟨y0, y1⟩, R3⟩ := TD2.out.kept k3)
          | (go_at_call 55; (with_reducible refine (qD _ A3 d3 N3).mono ?_); rintro e w4 ⟨rfl, k4⟩; have u0 := k4.cell y0 (by simp); have u1 := k4.cell y1 (by simp))
          | (go_at_call 52; (with_reducible refine (qM _).mono ?_); rintro e w5 ⟨rfl, k5⟩; obtain ⟨x0, x1, x2, c0, c1, c2, f0, f1, f2⟩ := ((R3.kept k4).kept k5).cells; have v0 := k5.cell u0 (by simp); have v1 := k5.cell u1 (by simp)))
        all_goals
          have KK := ((K2.out.drew.nil k3).nil k4).nil k5
          have HK := hid KK
          clear KK
          go_wp2_with fail
          exact bodyPost_ret (v := .tuple #[.agg #[.bool false, .string ⟨#[]⟩, .int .i64 0], .int .i64 3]) (by simp [results, Tryd.results24, go_sem, c0, c1, c2]) rfl (dec_big (kp_room2 HK.out _ _ _) HN.out)
      · have qM := fun W => made_some_sure (digs_digN (limLen (X - Y) * 9) (X - Y)) (by rw [length_digN]; omega) (by omega) (show norm n1 (val (digN (limLen (X - Y) * 9) (X - Y))) S = some r by rw [show val (digN (limLen (X - Y) * 9) (X - Y)) = X - Y from val_all _]; exact hN) W
        have HN : Hid (O = some r) := by rw [Hcode.out, if_neg Hnn.out, if_pos Hle.out]; exact hid hN
        obtain ⟨J, hJ⟩ : ∃ J, J = digN (limLen (X - Y) * 9) (X - Y) := ⟨_, rfl⟩
        have qD := fun W A c hW => digitsN W A c (X - Y) hW (by omega)
        simp only [← hJ] at qM qD
        obtain ⟨R, hR⟩ : ∃ R, R = X - Y := ⟨_, rfl⟩
        have qP := fun W hP hQ => minusN W A B c d X Y hP hQ (by omega) Hle.out
        unfold NatPost at qP
        simp only [← hR] at qP qD
        clear hJ hR hN
        go_wp2_with fail
        refine (qC _ N1.out.1 N1.out.2).mono ?_
        rintro e w2 ⟨rfl, k2⟩
        have hz0 := k2.cell z0 (by simp)
        have hz1 := k2.cell z1 (by simp)
        have TD2 := hid (show Three w.heap.size n1 n2 w2.drew from (show Three w.heap.size n1 n2 w1 from TD.out).kept k2.drew)
        have N2 := hid (And.intro (show NatA w2.drew A c X from LimA.kept N1.out.1 k2.drew) (show NatA w2.drew B d Y from LimA.kept N1.out.2 k2.drew))
        have K2 := hid (K1.out.nil k2)
        clear k2 z0 z1
        go_wp2_with fail
        go_region_held3 (fun w' => w'.cell? ⟨w.heap.size, 0, none⟩ = some (.bool n1) ∧ w'.cell? ⟨w.heap.size + 1, 0, none⟩ = some (.bool n2))
          (first | exact ⟨far0 v0, far1 v1⟩ | exact ⟨v0, v1⟩ | exact ⟨u0, u1⟩ | exact ⟨y0, y1⟩ | go_keep)
          (first
          | (go_at_call 60; (with_reducible refine (qP _ N2.out.1 N2.out.2).mono ?_); rintro e w3 ⟨A3, d3, rfl, N3, k3⟩; obtain ⟨⟨y0, y1⟩, R3⟩ := TD2.out.kept k3)
          | (go_at_call 55; (with_reducible refine (qD _ A3 d3 N3).mono ?_); rintro e w4 ⟨rfl, k4⟩; have u0 := k4.cell y0 (by simp); have u1 := k4.cell y1 (by simp))
          | (go_at_call 52; (with_reducible refine (qM _).mono ?_); rintro e w5 ⟨rfl, k5⟩; obtain ⟨x0, x1, x2, c0, c1, c2, f0, f1, f2⟩ := ((R3.kept k4).kept k5).cells; have v0 := k5.cell u0 (by simp); have v1 := k5.cell u1 (by simp)))
        all_goals
          have KK := ((K2.out.drew.nil k3).nil k4).nil k5
          have HK := hid KK
          clear KK
          go_wp2_with fail
          exact bodyPost_ret (v := .tuple #[.agg #[.bool r.neg, .string ⟨(dtxt r.n).toArray⟩, .int .i64 (r.s : Int)], .int .i64 0]) (by simp [results, Tryd.results24, go_sem, c0, c1, c2]) rfl (dec_dec (kp_room2 HK.out _ _ _) HN.out)
    · have hC0 : C < 0 := by omega
      have hle2 : X ≤ Y := by omega
      have lR : limLen (Y - X) ≤ 20 := Nat.le_trans (limLen_le (Nat.sub_le _ _)) lY
      have Hle := hid hle2
      have Hle2 := hid hle
      clear hcs hle hle2
      rcases hN : norm n2 (Y - X) S with _ | r
      · have qM := fun W => made_none_sure (digs_digN (limLen (Y - X) * 9) (Y - X)) (by rw [length_digN]; omega) (by omega) (show norm n2 (val (digN (limLen (Y - X) * 9) (Y - X))) S = none by rw [show val (digN (limLen (Y - X) * 9) (Y - X)) = Y - X from val_all _]; exact hN) W
        have HN : Hid (O = none) := by rw [Hcode.out, if_neg Hnn.out, if_neg Hle2.out]; exact hid hN
        obtain ⟨J, hJ⟩ : ∃ J, J = digN (limLen (Y - X) * 9) (Y - X) := ⟨_, rfl⟩
        have qD := fun W A c hW => digitsN W A c (Y - X) hW (by omega)
        simp only [← hJ] at qM qD
        obtain ⟨R, hR⟩ : ∃ R, R = Y - X := ⟨_, rfl⟩
        have qP := fun W hP hQ => minusN W B A d c Y X hP hQ (by omega) Hle.out
        unfold NatPost at qP
        simp only [← hR] at qP qD
        clear hJ hR hN
        go_wp2_with fail
        refine (qC _ N1.out.1 N1.out.2).mono ?_
        rintro e w2 ⟨rfl, k2⟩
        have hz0 := k2.cell z0 (by simp)
        have hz1 := k2.cell z1 (by simp)
        have TD2 := hid (show Three w.heap.size n1 n2 w2.drew from (show Three w.heap.size n1 n2 w1 from TD.out).kept k2.drew)
        have N2 := hid (And.intro (show NatA w2.drew A c X from LimA.kept N1.out.1 k2.drew) (show NatA w2.drew B d Y from LimA.kept N1.out.2 k2.drew))
        have K2 := hid (K1.out.nil k2)
        clear k2 z0 z1
        go_wp2_with fail
        go_region_held3 (fun w' => w'.cell? ⟨w.heap.size, 0, none⟩ = some (.bool n1) ∧ w'.cell? ⟨w.heap.size + 1, 0, none⟩ = some (.bool n2))
          (first | exact ⟨far0 v0, far1 v1⟩ | exact ⟨v0, v1⟩ | exact ⟨u0, u1⟩ | exact ⟨y0, y1⟩ | go_keep)
          (first
          | (go_at_call 60; (with_reducible refine (qP _ N2.out.2 N2.out.1).mono ?_); rintro e w3 ⟨A3, d3, rfl, N3, k3⟩; obtain ⟨⟨y0, y1⟩, R3⟩ := TD2.out.kept k3)
          | (go_at_call 55; (with_reducible refine (qD _ A3 d3 N3).mono ?_); rintro e w4 ⟨rfl, k4⟩; have u0 := k4.cell y0 (by simp); have u1 := k4.cell y1 (by simp))
          | (go_at_call 52; (with_reducible refine (qM _).mono ?_); rintro e w5 ⟨rfl, k5⟩; obtain ⟨x0, x1, x2, c0, c1, c2, f0, f1, f2⟩ := ((R3.kept k4).kept k5).cells; have v0 := k5.cell u0 (by simp); have v1 := k5.cell u1 (by simp)))
        all_goals
          have KK := ((K2.out.drew.nil k3).nil k4).nil k5
          have HK := hid KK
          clear KK
          go_wp2_with fail
          exact bodyPost_ret (v := .tuple #[.agg #[.bool false, .string ⟨#[]⟩, .int .i64 0], .int .i64 3]) (by simp [results, Tryd.results24, go_sem, c0, c1, c2]) rfl (dec_big (kp_room2 HK.out _ _ _) HN.out)
      · have qM := fun W => made_some_sure (digs_digN (limLen (Y - X) * 9) (Y - X)) (by rw [length_digN]; omega) (by omega) (show norm n2 (val (digN (limLen (Y - X) * 9) (Y - X))) S = some r by rw [show val (digN (limLen (Y - X) * 9) (Y - X)) = Y - X from val_all _]; exact hN) W
        have HN : Hid (O = some r) := by rw [Hcode.out, if_neg Hnn.out, if_neg Hle2.out]; exact hid hN
        obtain ⟨J, hJ⟩ : ∃ J, J = digN (limLen (Y - X) * 9) (Y - X) := ⟨_, rfl⟩
        have qD := fun W A c hW => digitsN W A c (Y - X) hW (by omega)
        simp only [← hJ] at qM qD
        obtain ⟨R, hR⟩ : ∃ R, R = Y - X := ⟨_, rfl⟩
        have qP := fun W hP hQ => minusN W B A d c Y X hP hQ (by omega) Hle.out
        unfold NatPost at qP
        simp only [← hR] at qP qD
        clear hJ hR hN
        go_wp2_with fail
        refine (qC _ N1.out.1 N1.out.2).mono ?_
        rintro e w2 ⟨rfl, k2⟩
        have hz0 := k2.cell z0 (by simp)
        have hz1 := k2.cell z1 (by simp)
        have TD2 := hid (show Three w.heap.size n1 n2 w2.drew from (show Three w.heap.size n1 n2 w1 from TD.out).kept k2.drew)
        have N2 := hid (And.intro (show NatA w2.drew A c X from LimA.kept N1.out.1 k2.drew) (show NatA w2.drew B d Y from LimA.kept N1.out.2 k2.drew))
        have K2 := hid (K1.out.nil k2)
        clear k2 z0 z1
        go_wp2_with fail
        go_region_held3 (fun w' => w'.cell? ⟨w.heap.size, 0, none⟩ = some (.bool n1) ∧ w'.cell? ⟨w.heap.size + 1, 0, none⟩ = some (.bool n2))
          (first | exact ⟨far0 v0, far1 v1⟩ | exact ⟨v0, v1⟩ | exact ⟨u0, u1⟩ | exact ⟨y0, y1⟩ | go_keep)
          (first
          | (go_at_call 60; (with_reducible refine (qP _ N2.out.2 N2.out.1).mono ?_); rintro e w3 ⟨A3, d3, rfl, N3, k3⟩; obtain ⟨⟨y0, y1⟩, R3⟩ := TD2.out.kept k3)
          | (go_at_call 55; (with_reducible refine (qD _ A3 d3 N3).mono ?_); rintro e w4 ⟨rfl, k4⟩; have u0 := k4.cell y0 (by simp); have u1 := k4.cell y1 (by simp))
          | (go_at_call 52; (with_reducible refine (qM _).mono ?_); rintro e w5 ⟨rfl, k5⟩; obtain ⟨x0, x1, x2, c0, c1, c2, f0, f1, f2⟩ := ((R3.kept k4).kept k5).cells; have v0 := k5.cell u0 (by simp); have v1 := k5.cell u1 (by simp)))
        all_goals
          have KK := ((K2.out.drew.nil k3).nil k4).nil k5
          have HK := hid KK
          clear KK
          go_wp2_with fail
          exact bodyPost_ret (v := .tuple #[.agg #[.bool r.neg, .string ⟨(dtxt r.n).toArray⟩, .int .i64 (r.s : Int)], .int .i64 0]) (by simp [results, Tryd.results24, go_sem, c0, c1, c2]) rfl (dec_dec (kp_room2 HK.out _ _ _) HN.out)
end Go.Proofs.YtampgimmodomoaaDoor
