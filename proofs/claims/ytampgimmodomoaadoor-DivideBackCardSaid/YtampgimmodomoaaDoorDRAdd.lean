/- The document's answer for layer 1: sums. -/
import Derived.Test.YtampgimmodomoaaDoorDRAlign
import Derived.Test.YtampgimmodomoaaDoorDArith
import Derived.Deep.RegionHeld3
namespace Go.Proofs.YtampgimmodomoaaDoor
open Go Go.RowKit Go.Lib

theorem rnorm_none {neg : Bool} {l : List UInt8} (hl : Digs l) (hs : l.length ≤ 1000000) {S : Nat} (hS : S ≤ 1000000) (h : norm neg (val l) S = none) (w : World) :
    Calls Tryd.prog 62 #[.bool neg, .string ⟨l.toArray⟩, .int .i64 (S : Int)] w fun e w' => e = .returned (.tuple #[.agg #[.bool false, .string ⟨#[]⟩, .int .i64 0], .int .i64 3]) ∧ Kp [] w w' := by
  refine (rnorm_any w neg l hl hs S hS).mono fun e w' ⟨h1, h2⟩ => ⟨?_, h2⟩
  rw [h] at h1
  exact h1
theorem rnorm_some {neg : Bool} {l : List UInt8} (hl : Digs l) (hs : l.length ≤ 1000000) {S : Nat} (hS : S ≤ 1000000) {d : Dc} (h : norm neg (val l) S = some d) (w : World) :
    Calls Tryd.prog 62 #[.bool neg, .string ⟨l.toArray⟩, .int .i64 (S : Int)] w fun e w' => e = .returned (.tuple #[.agg #[.bool d.neg, .string ⟨(dtxt d.n).toArray⟩, .int .i64 (d.s : Int)], .int .i64 0]) ∧ Kp [] w w' := by
  refine (rnorm_any w neg l hl hs S hS).mono fun e w' ⟨h1, h2⟩ => ⟨?_, h2⟩
  rw [h] at h1
  exact h1
/-- Digits of a number that has not more. -/
theorem val_digN_lt {k n : Nat} (h : n < 10 ^ k) : val (digN k n) = n := by rw [val_digN, Nat.mod_eq_of_lt h]
/-- What Align hands back of decimals that may be. -/
theorem al_facts {a b : Dc} (ha : Ok a) (hb : Ok b) : ∃ (X Y : List UInt8) (S N : Nat), S = max a.s b.s ∧ S ≤ 60 ∧ N ≤ 1000 ∧ X.length = N ∧ Y.length = N ∧ Digs X ∧ Digs Y ∧ val X = up a S ∧ val Y = up b S ∧
    ∀ w, Calls Tryd.prog 61 #[.agg #[.bool a.neg, .string ⟨(dtxt a.n).toArray⟩, .int .i64 (a.s : Int)], .agg #[.bool b.neg, .string ⟨(dtxt b.n).toArray⟩, .int .i64 (b.s : Int)]] w fun e w' => e = .returned (.tuple #[.string ⟨X.toArray⟩, .string ⟨Y.toArray⟩, .int .i64 (S : Int)]) ∧ Kp [] w w' := by
  have l1 := length_dtxt_le (k := 60) ha.1 (by decide)
  have l2 := length_dtxt_le (k := 60) hb.1 (by decide)
  have s1 := ha.2.1
  have s2 := hb.2.1
  refine ⟨_, _, max a.s b.s, alN (dtxt a.n) (dtxt b.n) a.s b.s, rfl, by omega, by unfold alN; omega, alX_len _ _ _ _ (by unfold alN; omega), alX_len _ _ _ _ (by unfold alN; omega), alX_digs (digs_dtxt _) _ _ _, alX_digs (digs_dtxt _) _ _ _, ?_, ?_, fun w => ralign_any w a.neg b.neg _ _ (by omega) (by omega) a.s b.s (by omega) (by omega)⟩
  · rw [alX_val, val_dtxt]; rfl
  · rw [alX_val, val_dtxt]; rfl
set_option maxRecDepth 100000 in
set_option maxHeartbeats 6400000 in
theorem radd_any (w : World) (a b : Dc) (ha : Ok a) (hb : Ok b) :
    Calls Tryd.prog 25 #[.agg #[.bool a.neg, .string ⟨(dtxt a.n).toArray⟩, .int .i64 (a.s : Int)], .agg #[.bool b.neg, .string ⟨(dtxt b.n).toArray⟩, .int .i64 (b.s : Int)]] w (DecPost w (addD a b)) := by
  obtain ⟨X, Y, S, N, hS, hS60, hN, lX, lY, dX, dY, vX, vY, qA⟩ := al_facts ha hb
  have hcode := add_code a b
  rw [← hS, ← vX, ← vY] at hcode
  obtain ⟨O, hO⟩ : ∃ O, O = addD a b := ⟨_, rfl⟩
  rw [← hO] at hcode ⊢
  obtain ⟨D2, hD2⟩ : ∃ D2, D2 = dtxt b.n := ⟨_, rfl⟩
  obtain ⟨D1, hD1⟩ : ∃ D1, D1 = dtxt a.n := ⟨_, rfl⟩
  obtain ⟨n1, hn1⟩ : ∃ n1, n1 = a.neg := ⟨_, rfl⟩
  obtain ⟨n2, hn2⟩ : ∃ n2, n2 = b.neg := ⟨_, rfl⟩
  obtain ⟨s1, hs1⟩ : ∃ s1, s1 = a.s := ⟨_, rfl⟩
  obtain ⟨s2, hs2⟩ : ∃ s2, s2 = b.s := ⟨_, rfl⟩
  simp only [← hD1, ← hD2, ← hn1, ← hn2, ← hs1, ← hs2] at qA hcode ⊢
  have Hroom := hid (three_fresh w n1 n2 (.string ⟨D1.toArray⟩) (.int .i64 (s1 : Int)) (.string ⟨D2.toArray⟩) (.int .i64 (s2 : Int)) (.bool false) (.string ⟨#[]⟩) (.int .i64 0))
  have bX := val_lt X dX
  have bY := val_lt Y dY
  have hless := less_val X Y dX dY (by omega)
  clear hO hD2 hD1 hn1 hn2 hs1 hs2 hS vX vY ha hb
  by_cases hn : n1 = n2
  · subst hn
    rw [if_pos rfl] at hcode
    have qP := fun W => rplus_any W X Y dX dY (by omega) (by omega)
    obtain ⟨T, hT⟩ : ∃ T, T = digN (X.length + 1) (val X + val Y) := ⟨_, rfl⟩
    simp only [← hT] at qP
    have dT : Digs T := by rw [hT]; exact digs_digN _ _
    have lT : T.length = N + 1 := by rw [hT, length_digN, lX]
    rw [show val X + val Y = val T by rw [hT]; exact (val_digN_lt (by rw [Nat.pow_succ]; rw [lY, ← lX] at bY; omega)).symm] at hcode
    clear hT hless
    rcases h9 : O with _ | d
    · have qN := fun W => rnorm_none dT (by omega) (by omega) (S := S) (show norm n1 (val T) S = none by rw [← hcode]; exact h9) W
      clear hcode h9 dT lT hN hS60 dX dY lX lY bX bY
      go_enter Tryd.func25, Tryd.ntmps25
      go_wp2_with fail
      refine (qA _).mono ?_
      rintro e w1 ⟨rfl, k1⟩
      have T1 := Hroom.out.kept k1
      have K1 := ((((Kp.refl [] w).alloc _).alloc _).alloc _).nil k1
      have HT := hid (And.intro T1 K1)
      have t0 := T1.1.1
      have t1 := T1.1.2
      clear T1 K1 k1
      go_wp2_with fail
      go_region_held3 (fun w' => w'.cell? ⟨w.heap.size, 0, none⟩ = some (.bool n1))
        (first | exact far0 v0 | exact v0 | exact y0 | exact t0 | go_keep)
        (first
        | (go_at_call 63; (with_reducible refine (qP _).mono ?_); rintro e w6 ⟨rfl, k6⟩; have y0 := k6.cell t0 (by simp))
        | (go_at_call 62; (with_reducible refine (qN _).mono ?_); rintro e w7 ⟨rfl, k7⟩; have v0 := k7.cell y0 (by simp); obtain ⟨x0, x1, x2, c0, c1, c2, f0, f1, f2⟩ := ((HT.out.1.kept (Kp.refl [] w1).drew).kept (k6.nil k7)).2.cells))
      all_goals
        have HK := hid (((HT.out.2.drew).nil k6).nil k7)
        clear k6 k7
        go_wp2_with fail
        exact bodyPost_ret (v := .tuple #[.agg #[.bool false, .string ⟨#[]⟩, .int .i64 0], .int .i64 3]) (by simp [results, Tryd.results25, go_sem, c0, c1, c2]) rfl (dec_big (kp_room2 HK.out _ _ _) rfl)
    · have qN := fun W => rnorm_some dT (by omega) (by omega) (S := S) (show norm n1 (val T) S = some d by rw [← hcode]; exact h9) W
      clear hcode h9 dT lT hN hS60 dX dY lX lY bX bY
      go_enter Tryd.func25, Tryd.ntmps25
      go_wp2_with fail
      refine (qA _).mono ?_
      rintro e w1 ⟨rfl, k1⟩
      have T1 := Hroom.out.kept k1
      have K1 := ((((Kp.refl [] w).alloc _).alloc _).alloc _).nil k1
      have HT := hid (And.intro T1 K1)
      have t0 := T1.1.1
      have t1 := T1.1.2
      clear T1 K1 k1
      go_wp2_with fail
      go_region_held3 (fun w' => w'.cell? ⟨w.heap.size, 0, none⟩ = some (.bool n1))
        (first | exact far0 v0 | exact v0 | exact y0 | exact t0 | go_keep)
        (first
        | (go_at_call 63; (with_reducible refine (qP _).mono ?_); rintro e w6 ⟨rfl, k6⟩; have y0 := k6.cell t0 (by simp))
        | (go_at_call 62; (with_reducible refine (qN _).mono ?_); rintro e w7 ⟨rfl, k7⟩; have v0 := k7.cell y0 (by simp); obtain ⟨x0, x1, x2, c0, c1, c2, f0, f1, f2⟩ := ((HT.out.1.kept (Kp.refl [] w1).drew).kept (k6.nil k7)).2.cells))
      all_goals
        have HK := hid (((HT.out.2.drew).nil k6).nil k7)
        clear k6 k7
        go_wp2_with fail
        exact bodyPost_ret (v := .tuple #[.agg #[.bool d.neg, .string ⟨(dtxt d.n).toArray⟩, .int .i64 (d.s : Int)], .int .i64 0]) (by simp [results, Tryd.results25, go_sem, c0, c1, c2]) rfl (dec_dec (kp_room2 HK.out _ _ _) rfl)
  · rw [if_neg hn] at hcode
    have hnb : (n1 == n2) = false := beq_eq_false_iff_ne.2 hn
    clear hn
    by_cases hle : val Y ≤ val X
    · rw [if_pos hle] at hcode
      have qP := fun W => rminus_any W X Y dX dY (by omega) (by omega) hle
      obtain ⟨T, hT⟩ : ∃ T, T = digN X.length (val X - val Y) := ⟨_, rfl⟩
      simp only [← hT] at qP
      have dT : Digs T := by rw [hT]; exact digs_digN _ _
      have lT : T.length = N := by rw [hT, length_digN, lX]
      rw [show val X - val Y = val T by rw [hT]; exact (val_digN_lt (by omega)).symm] at hcode
      rw [decide_eq_false (by omega)] at hless
      clear hT hle
      rcases h9 : O with _ | d
      · have qN := fun W => rnorm_none dT (by omega) (by omega) (S := S) (show norm n1 (val T) S = none by rw [← hcode]; exact h9) W
        clear hcode h9 dT lT hN hS60 dX dY lX lY bX bY
        go_enter Tryd.func25, Tryd.ntmps25
        go_wp2_with fail
        refine (qA _).mono ?_
        rintro e w1 ⟨rfl, k1⟩
        have T1 := Hroom.out.kept k1
        have K1 := ((((Kp.refl [] w).alloc _).alloc _).alloc _).nil k1
        have HT := hid (And.intro T1 K1)
        have t0 := T1.1.1
        have t1 := T1.1.2
        clear T1 K1 k1
        go_wp2_with fail
        go_region_held3 (fun w' => w'.cell? ⟨w.heap.size, 0, none⟩ = some (.bool n1))
          (first | exact far0 v0 | exact v0 | exact y0 | exact t0 | go_keep)
          (first
          | (go_at_call 64; (with_reducible refine (qP _).mono ?_); rintro e w6 ⟨rfl, k6⟩; have y0 := k6.cell t0 (by simp))
          | (go_at_call 62; (with_reducible refine (qN _).mono ?_); rintro e w7 ⟨rfl, k7⟩; have v0 := k7.cell y0 (by simp); obtain ⟨x0, x1, x2, c0, c1, c2, f0, f1, f2⟩ := ((HT.out.1.kept (Kp.refl [] w1).drew).kept (k6.nil k7)).2.cells))
        all_goals
          have HK := hid (((HT.out.2.drew).nil k6).nil k7)
          clear k6 k7
          go_wp2_with fail
          exact bodyPost_ret (v := .tuple #[.agg #[.bool false, .string ⟨#[]⟩, .int .i64 0], .int .i64 3]) (by simp [results, Tryd.results25, go_sem, c0, c1, c2]) rfl (dec_big (kp_room2 HK.out _ _ _) rfl)
      · have qN := fun W => rnorm_some dT (by omega) (by omega) (S := S) (show norm n1 (val T) S = some d by rw [← hcode]; exact h9) W
        clear hcode h9 dT lT hN hS60 dX dY lX lY bX bY
        go_enter Tryd.func25, Tryd.ntmps25
        go_wp2_with fail
        refine (qA _).mono ?_
        rintro e w1 ⟨rfl, k1⟩
        have T1 := Hroom.out.kept k1
        have K1 := ((((Kp.refl [] w).alloc _).alloc _).alloc _).nil k1
        have HT := hid (And.intro T1 K1)
        have t0 := T1.1.1
        have t1 := T1.1.2
        clear T1 K1 k1
        go_wp2_with fail
        go_region_held3 (fun w' => w'.cell? ⟨w.heap.size, 0, none⟩ = some (.bool n1))
          (first | exact far0 v0 | exact v0 | exact y0 | exact t0 | go_keep)
          (first
          | (go_at_call 64; (with_reducible refine (qP _).mono ?_); rintro e w6 ⟨rfl, k6⟩; have y0 := k6.cell t0 (by simp))
          | (go_at_call 62; (with_reducible refine (qN _).mono ?_); rintro e w7 ⟨rfl, k7⟩; have v0 := k7.cell y0 (by simp); obtain ⟨x0, x1, x2, c0, c1, c2, f0, f1, f2⟩ := ((HT.out.1.kept (Kp.refl [] w1).drew).kept (k6.nil k7)).2.cells))
        all_goals
          have HK := hid (((HT.out.2.drew).nil k6).nil k7)
          clear k6 k7
          go_wp2_with fail
          exact bodyPost_ret (v := .tuple #[.agg #[.bool d.neg, .string ⟨(dtxt d.n).toArray⟩, .int .i64 (d.s : Int)], .int .i64 0]) (by simp [results, Tryd.results25, go_sem, c0, c1, c2]) rfl (dec_dec (kp_room2 HK.out _ _ _) rfl)
    · rw [if_neg hle] at hcode
      have qP := fun W => rminus_any W Y X dY dX (by omega) (by omega) (by omega)
      obtain ⟨T, hT⟩ : ∃ T, T = digN Y.length (val Y - val X) := ⟨_, rfl⟩
      simp only [← hT] at qP
      have dT : Digs T := by rw [hT]; exact digs_digN _ _
      have lT : T.length = N := by rw [hT, length_digN, lY]
      rw [show val Y - val X = val T by rw [hT]; exact (val_digN_lt (by omega)).symm] at hcode
      rw [decide_eq_true (by omega)] at hless
      clear hT hle
      rcases h9 : O with _ | d
      · have qN := fun W => rnorm_none dT (by omega) (by omega) (S := S) (show norm n2 (val T) S = none by rw [← hcode]; exact h9) W
        clear hcode h9 dT lT hN hS60 dX dY lX lY bX bY
        go_enter Tryd.func25, Tryd.ntmps25
        go_wp2_with fail
        refine (qA _).mono ?_
        rintro e w1 ⟨rfl, k1⟩
        have T1 := Hroom.out.kept k1
        have K1 := ((((Kp.refl [] w).alloc _).alloc _).alloc _).nil k1
        have HT := hid (And.intro T1 K1)
        have t0 := T1.1.1
        have t1 := T1.1.2
        clear T1 K1 k1
        go_wp2_with fail
        go_region_held3 (fun w' => w'.cell? ⟨w.heap.size + 1, 0, none⟩ = some (.bool n2))
          (first | exact far1 v0 | exact v0 | exact y0 | exact t1 | go_keep)
          (first
          | (go_at_call 64; (with_reducible refine (qP _).mono ?_); rintro e w6 ⟨rfl, k6⟩; have y0 := k6.cell t1 (by simp))
          | (go_at_call 62; (with_reducible refine (qN _).mono ?_); rintro e w7 ⟨rfl, k7⟩; have v0 := k7.cell y0 (by simp); obtain ⟨x0, x1, x2, c0, c1, c2, f0, f1, f2⟩ := ((HT.out.1.kept (Kp.refl [] w1).drew).kept (k6.nil k7)).2.cells))
        all_goals
          have HK := hid (((HT.out.2.drew).nil k6).nil k7)
          clear k6 k7
          go_wp2_with fail
          exact bodyPost_ret (v := .tuple #[.agg #[.bool false, .string ⟨#[]⟩, .int .i64 0], .int .i64 3]) (by simp [results, Tryd.results25, go_sem, c0, c1, c2]) rfl (dec_big (kp_room2 HK.out _ _ _) rfl)
      · have qN := fun W => rnorm_some dT (by omega) (by omega) (S := S) (show norm n2 (val T) S = some d by rw [← hcode]; exact h9) W
        clear hcode h9 dT lT hN hS60 dX dY lX lY bX bY
        go_enter Tryd.func25, Tryd.ntmps25
        go_wp2_with fail
        refine (qA _).mono ?_
        rintro e w1 ⟨rfl, k1⟩
        have T1 := Hroom.out.kept k1
        have K1 := ((((Kp.refl [] w).alloc _).alloc _).alloc _).nil k1
        have HT := hid (And.intro T1 K1)
        have t0 := T1.1.1
        have t1 := T1.1.2
        clear T1 K1 k1
        go_wp2_with fail
        go_region_held3 (fun w' => w'.cell? ⟨w.heap.size + 1, 0, none⟩ = some (.bool n2))
          (first | exact far1 v0 | exact v0 | exact y0 | exact t1 | go_keep)
          (first
          | (go_at_call 64; (with_reducible refine (qP _).mono ?_); rintro e w6 ⟨rfl, k6⟩; have y0 := k6.cell t1 (by simp))
          | (go_at_call 62; (with_reducible refine (qN _).mono ?_); rintro e w7 ⟨rfl, k7⟩; have v0 := k7.cell y0 (by simp); obtain ⟨x0, x1, x2, c0, c1, c2, f0, f1, f2⟩ := ((HT.out.1.kept (Kp.refl [] w1).drew).kept (k6.nil k7)).2.cells))
        all_goals
          have HK := hid (((HT.out.2.drew).nil k6).nil k7)
          clear k6 k7
          go_wp2_with fail
          exact bodyPost_ret (v := .tuple #[.agg #[.bool d.neg, .string ⟨(dtxt d.n).toArray⟩, .int .i64 (d.s : Int)], .int .i64 0]) (by simp [results, Tryd.results25, go_sem, c0, c1, c2]) rfl (dec_dec (kp_room2 HK.out _ _ _) rfl)
end Go.Proofs.YtampgimmodomoaaDoor
