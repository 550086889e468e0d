/- What the laws of layer 2 lean on: num, may, Turn, the document's examples. -/
import Derived.Test.YtampgimmodomoaaDoorDRParse
import Derived.Test.YtampgimmodomoaaDoorDPow
namespace Go.Proofs.YtampgimmodomoaaDoor
open Go Go.RowKit Go.Lib

set_option maxRecDepth 100000 in
theorem num_any (L : List UInt8) (hL : L.length ≤ 100000) {d : Dc} (h : parseL L = some (some d)) (w : World) :
    Calls Tryd.prog 68 #[.string ⟨L.toArray⟩] w fun e w' => e = .returned (.agg #[.bool d.neg, .string ⟨(dtxt d.n).toArray⟩, .int .i64 (d.s : Int)]) ∧ Kp [] w w' := by
  have q := fun W => rparse_any W L hL
  simp only [h] at q
  have q2 : ∀ W, Calls Tryd.prog 31 #[.string ⟨L.toArray⟩] W fun e w' => e = .returned (.tuple #[.agg #[.bool d.neg, .string ⟨(dtxt d.n).toArray⟩, .int .i64 (d.s : Int)], .int .i64 0]) ∧ Kp [] W w' := q
  have HK := hid ((Kp.refl [] w).alloc (.cells #[.bool false, .string ⟨#[]⟩, .int .i64 0] 23))
  have HM := hid (Room.fresh w (.bool false) (.string ⟨#[]⟩) (.int .i64 0))
  clear q h
  go_enter Tryd.func68, Tryd.ntmps68
  go_wp2_with fail
  (with_reducible refine (q2 _).mono ?_)
  rintro e w1 ⟨rfl, k1⟩
  obtain ⟨K1, l0, l1, l2⟩ := k1.loc (.bool d.neg) (.string ⟨(dtxt d.n).toArray⟩) (.int .i64 (d.s : Int))
  obtain ⟨W1, hW1⟩ : ∃ W1, W1 = w1.alloc (.cells #[.bool d.neg, .string ⟨(dtxt d.n).toArray⟩, .int .i64 (d.s : Int)] 23) := ⟨_, rfl⟩
  have hR := HM.out.kept K1
  have hK := HK.out.nil K1
  rw [← hW1] at hR hK l0 l1 l2
  obtain ⟨_, _, _, c0, c1, c2, f0, f1, f2⟩ := hR.cells
  have HK1 := hid hK
  have HW1 := hid hW1
  clear k1 K1 q2 hR hK hW1
  go_upto_region 2 with fail
  rw [← HW1.out]
  go_wp2_with fail
  exact bodyPost_ret (v := .agg #[.bool d.neg, .string ⟨(dtxt d.n).toArray⟩, .int .i64 (d.s : Int)]) (by simp [results, Tryd.results68, go_sem, c0, c1, c2]) rfl ⟨rfl, kp_room HK1.out _ _ _⟩
set_option maxRecDepth 100000 in
theorem vmay_any (w : World) (a b : RawD) (ha : a.ok) (hb : b.ok) :
    Calls Tryd.prog 36 #[.agg #[.bool a.neg, .string ⟨a.l.toArray⟩, .int .i64 a.s], .agg #[.bool b.neg, .string ⟨b.l.toArray⟩, .int .i64 b.s]] w fun e w' => e = .returned (.bool (mayL a.neg a.l a.s && mayL b.neg b.l b.s)) ∧ Kp [] w w' := by
  have q1 := fun W => rmay_any W a.neg a.l a.s ha.1 ha.2
  have q2 := fun W => rmay_any W b.neg b.l b.s hb.1 hb.2
  obtain ⟨x, hx⟩ : ∃ x, x = mayL a.neg a.l a.s := ⟨_, rfl⟩
  obtain ⟨y, hy⟩ : ∃ y, y = mayL b.neg b.l b.s := ⟨_, rfl⟩
  rw [← hx] at q1 ⊢
  rw [← hy] at q2 ⊢
  have HB := hid (Cells.fresh1 w (.cells #[.bool a.neg, .string ⟨a.l.toArray⟩, .int .i64 a.s] 23) 23 [.bool b.neg, .string ⟨b.l.toArray⟩, .int .i64 b.s])
  have HK := hid (((Kp.refl [] w).alloc (.cells #[.bool a.neg, .string ⟨a.l.toArray⟩, .int .i64 a.s] 23)).alloc (.cells #[.bool b.neg, .string ⟨b.l.toArray⟩, .int .i64 b.s] 23))
  clear hx hy ha hb
  go_enter Tryd.func36, Tryd.ntmps36
  go_wp2_with fail
  (with_reducible refine (q1 _).mono ?_)
  rintro e w1 ⟨rfl, k1⟩
  have hb1 := HB.out.keep k1 (by simp)
  have b0 : _ = some (Value.bool b.neg) := hb1.cell 0
  have b1 : _ = some (Value.string ⟨b.l.toArray⟩) := hb1.cell 1
  have b2 : _ = some (Value.int .i64 b.s) := hb1.cell 2
  have HK1 := hid (HK.out.nil k1)
  clear k1 hb1 q1
  go_wp2_with fail
  (with_reducible refine (q2 _).mono ?_)
  rintro e w2 ⟨rfl, k2⟩
  have HK2 := hid (HK1.out.nil k2)
  clear k2 q2
  cases x <;> cases y
  all_goals go_wp2_with fail
  all_goals go_ret
  all_goals exact ⟨rfl, HK2.out⟩
set_option maxRecDepth 100000 in
theorem turn_any (w : World) (d : Dc) : Calls Tryd.prog 44 #[.agg #[.bool d.neg, .string ⟨(dtxt d.n).toArray⟩, .int .i64 (d.s : Int)]] w fun e w' => e = .returned (.agg #[.bool (turnD d).neg, .string ⟨(dtxt (turnD d).n).toArray⟩, .int .i64 ((turnD d).s : Int)]) ∧ Kp [] w w' := by
  have HK := hid (((Kp.refl [] w).alloc (.cells #[.bool d.neg, .string ⟨(dtxt d.n).toArray⟩, .int .i64 (d.s : Int)] 23)).alloc (.cells #[.bool false, .string ⟨#[]⟩, .int .i64 0] 23))
  by_cases h0 : d.n = 0
  · have e := turn_none h0
    have hD : dtxt d.n = [48] := by rw [h0]; rfl
    rw [e, hD]
    obtain ⟨na, hna⟩ : ∃ x, x = d.neg := ⟨_, rfl⟩
    obtain ⟨s, hs⟩ : ∃ x, x = d.s := ⟨_, rfl⟩
    rw [hD] at HK
    rw [← hna, ← hs] at HK ⊢
    clear e hD h0 hna hs
    go_enter Tryd.func44, Tryd.ntmps44
    go_wp2_with fail
    exact bodyPost_ret (v := .agg #[.bool na, .string ⟨#[48]⟩, .int .i64 (s : Int)]) (by simp [results, Tryd.results44, go_sem]) rfl ⟨rfl, by repeat first | exact Kp.refl _ _ | refine Kp.alloc ?_ _ | exact (Kp.refl _ _).alloc _⟩
  · have e1 := turn_neg h0
    obtain ⟨e2, e3⟩ := turn_n d
    have hD : (dtxt d.n == [48]) = false := by
      rw [beq_eq_false_iff_ne]
      intro e
      have := val_dtxt d.n
      rw [e] at this
      exact h0 this.symm
    rw [e1, e2, e3]
    obtain ⟨na, hna⟩ : ∃ x, x = d.neg := ⟨_, rfl⟩
    obtain ⟨s, hs⟩ : ∃ x, x = d.s := ⟨_, rfl⟩
    obtain ⟨D, hDD⟩ : ∃ x, x = dtxt d.n := ⟨_, rfl⟩
    rw [← hDD] at hD HK
    rw [← hna, ← hs] at HK
    rw [← hna, ← hs, ← hDD]
    clear e1 e2 e3 h0 hna hs hDD
    go_enter Tryd.func44, Tryd.ntmps44
    go_wp2_with fail
    exact bodyPost_ret (v := .agg #[.bool (!na), .string ⟨D.toArray⟩, .int .i64 (s : Int)]) (by simp [results, Tryd.results44, go_sem]) rfl ⟨rfl, by repeat first | exact Kp.refl _ _ | refine Kp.alloc ?_ _ | refine Kp.setCell ?_ (fun h => by simp at h) _⟩
theorem div_sure {a b d : Dc} (ha : Ok a) (hb : Ok b) (hb0 : b.n ≠ 0) (h : divD a b = some d) (w : World) : Calls Tryd.prog 37 #[.agg #[.bool a.neg, .string ⟨(dtxt a.n).toArray⟩, .int .i64 (a.s : Int)], .agg #[.bool b.neg, .string ⟨(dtxt b.n).toArray⟩, .int .i64 (b.s : Int)]] w fun e w' => e = .returned (.tuple #[.agg #[.bool d.neg, .string ⟨(dtxt d.n).toArray⟩, .int .i64 (d.s : Int)], .int .i64 0]) ∧ Kp [] w w' := by
  have q := div_any w a b ha hb hb0
  rw [h] at q
  exact q
theorem mod_sure {a b d : Dc} (ha : Ok a) (hb : Ok b) (hb0 : b.n ≠ 0) (h : modD a b = some d) (w : World) : Calls Tryd.prog 39 #[.agg #[.bool a.neg, .string ⟨(dtxt a.n).toArray⟩, .int .i64 (a.s : Int)], .agg #[.bool b.neg, .string ⟨(dtxt b.n).toArray⟩, .int .i64 (b.s : Int)]] w fun e w' => e = .returned (.tuple #[.agg #[.bool d.neg, .string ⟨(dtxt d.n).toArray⟩, .int .i64 (d.s : Int)], .int .i64 0]) ∧ Kp [] w w' := by
  have q := mod_any w a b ha hb hb0
  rw [h] at q
  exact q
theorem round_sure {a d : Dc} (ha : Ok a) (h : roundD a = some d) (w : World) : Calls Tryd.prog 43 #[.agg #[.bool a.neg, .string ⟨(dtxt a.n).toArray⟩, .int .i64 (a.s : Int)]] w fun e w' => e = .returned (.tuple #[.agg #[.bool d.neg, .string ⟨(dtxt d.n).toArray⟩, .int .i64 (d.s : Int)], .int .i64 0]) ∧ Kp [] w w' := by
  have q := round_any w a ha
  rw [h] at q
  exact q
set_option maxRecDepth 100000 in
set_option maxHeartbeats 6400000 in
theorem vshown_any (w : World) : Calls Tryd.prog 35 #[] w (YesPost w) := by
  have pa1 := num_any [49] (by decide) (d := ⟨false, 1, 0⟩) (by kernel_rfl)
  have pa8 := num_any [56] (by decide) (d := ⟨false, 8, 0⟩) (by kernel_rfl)
  have pa2 := num_any [50] (by decide) (d := ⟨false, 2, 0⟩) (by kernel_rfl)
  have pa3 := num_any [51] (by decide) (d := ⟨false, 3, 0⟩) (by kernel_rfl)
  have pm7 := num_any [45, 55] (by decide) (d := ⟨true, 7, 0⟩) (by kernel_rfl)
  have ph25 := num_any [50, 46, 53] (by decide) (d := ⟨false, 25, 1⟩) (by kernel_rfl)
  have pmh := num_any [45, 48, 46, 53] (by decide) (d := ⟨true, 5, 1⟩) (by kernel_rfl)
  have pq1 := num_any [48, 46, 49, 50, 53] (by decide) (d := ⟨false, 125, 3⟩) (by kernel_rfl)
  have pq2 := num_any [48, 46, 54, 54, 54, 54, 54, 54, 54, 54, 54, 54, 54, 54, 54, 54, 54, 54, 54, 54, 54, 54, 54, 54, 54, 54, 54, 54, 54, 54, 54, 54, 54, 54, 54, 55] (by decide) (d := ⟨false, 6666666666666666666666666666666667, 34⟩) (by kernel_rfl)
  have pq3 := num_any [45, 50] (by decide) (d := ⟨true, 2, 0⟩) (by kernel_rfl)
  have pq4 := num_any [45, 49] (by decide) (d := ⟨true, 1, 0⟩) (by kernel_rfl)
  have oa1 : Ok ⟨false, 1, 0⟩ := ⟨by decide, by decide, by decide, by decide⟩
  have oa8 : Ok ⟨false, 8, 0⟩ := ⟨by decide, by decide, by decide, by decide⟩
  have oa2 : Ok ⟨false, 2, 0⟩ := ⟨by decide, by decide, by decide, by decide⟩
  have oa3 : Ok ⟨false, 3, 0⟩ := ⟨by decide, by decide, by decide, by decide⟩
  have om7 : Ok ⟨true, 7, 0⟩ := ⟨by decide, by decide, by decide, by decide⟩
  have oh25 : Ok ⟨false, 25, 1⟩ := ⟨by decide, by decide, by decide, by decide⟩
  have omh : Ok ⟨true, 5, 1⟩ := ⟨by decide, by decide, by decide, by decide⟩
  have v1 := div_sure oa1 oa8 (by decide) (d := ⟨false, 125, 3⟩) (by kernel_rfl)
  have v2 := div_sure oa2 oa3 (by decide) (d := ⟨false, 6666666666666666666666666666666667, 34⟩) (by kernel_rfl)
  have v3 := mod_sure om7 oh25 (by decide) (d := ⟨true, 2, 0⟩) (by kernel_rfl)
  have v4 := round_sure omh (d := ⟨true, 1, 0⟩) (by kernel_rfl)
  generalize (⟨false, 1, 0⟩ : Dc) = a1 at pa1 v1
  generalize (⟨false, 8, 0⟩ : Dc) = a8 at pa8 v1
  generalize (⟨false, 2, 0⟩ : Dc) = a2 at pa2 v2
  generalize (⟨false, 3, 0⟩ : Dc) = a3 at pa3 v2
  generalize (⟨true, 7, 0⟩ : Dc) = m7 at pm7 v3
  generalize (⟨false, 25, 1⟩ : Dc) = h25 at ph25 v3
  generalize (⟨true, 5, 1⟩ : Dc) = mh at pmh v4
  generalize (⟨false, 125, 3⟩ : Dc) = q1 at pq1 v1
  generalize (⟨false, 6666666666666666666666666666666667, 34⟩ : Dc) = q2 at pq2 v2
  generalize (⟨true, 2, 0⟩ : Dc) = q3 at pq3 v3
  generalize (⟨true, 1, 0⟩ : Dc) = q4 at pq4 v4
  clear oa1 oa8 oa2 oa3 om7 oh25 omh
  go_enter Tryd.func35, Tryd.ntmps35
  go_wp2_with fail
  refine (pa1 _).mono ?_
  rintro e w1 ⟨rfl, k1⟩
  go_wp2_with fail
  refine (pa8 _).mono ?_
  rintro e w2 ⟨rfl, k2⟩
  go_wp2_with fail
  refine (v1 _).mono ?_
  rintro e w3 ⟨rfl, k3⟩
  obtain ⟨K3, q10, q11, q12⟩ := k3.loc (.bool q1.neg) (.string ⟨(dtxt q1.n).toArray⟩) (.int .i64 (q1.s : Int))
  go_wp2_with fail
  refine (pa2 _).mono ?_
  rintro e w4 ⟨rfl, k4⟩
  replace q10 := k4.cell q10 (by simp)
  replace q11 := k4.cell q11 (by simp)
  replace q12 := k4.cell q12 (by simp)
  go_wp2_with fail
  refine (pa3 _).mono ?_
  rintro e w5 ⟨rfl, k5⟩
  replace q10 := k5.cell q10 (by simp)
  replace q11 := k5.cell q11 (by simp)
  replace q12 := k5.cell q12 (by simp)
  go_wp2_with fail
  refine (v2 _).mono ?_
  rintro e w6 ⟨rfl, k6⟩
  obtain ⟨K6, q20, q21, q22⟩ := k6.loc (.bool q2.neg) (.string ⟨(dtxt q2.n).toArray⟩) (.int .i64 (q2.s : Int))
  replace q10 := K6.cell q10 (by simp)
  replace q11 := K6.cell q11 (by simp)
  replace q12 := K6.cell q12 (by simp)
  go_wp2_with fail
  refine (pm7 _).mono ?_
  rintro e w7 ⟨rfl, k7⟩
  replace q10 := k7.cell q10 (by simp)
  replace q11 := k7.cell q11 (by simp)
  replace q12 := k7.cell q12 (by simp)
  replace q20 := k7.cell q20 (by simp)
  replace q21 := k7.cell q21 (by simp)
  replace q22 := k7.cell q22 (by simp)
  go_wp2_with fail
  refine (ph25 _).mono ?_
  rintro e w8 ⟨rfl, k8⟩
  replace q10 := k8.cell q10 (by simp)
  replace q11 := k8.cell q11 (by simp)
  replace q12 := k8.cell q12 (by simp)
  replace q20 := k8.cell q20 (by simp)
  replace q21 := k8.cell q21 (by simp)
  replace q22 := k8.cell q22 (by simp)
  go_wp2_with fail
  refine (v3 _).mono ?_
  rintro e w9 ⟨rfl, k9⟩
  obtain ⟨K9, q30, q31, q32⟩ := k9.loc (.bool q3.neg) (.string ⟨(dtxt q3.n).toArray⟩) (.int .i64 (q3.s : Int))
  replace q10 := K9.cell q10 (by simp)
  replace q11 := K9.cell q11 (by simp)
  replace q12 := K9.cell q12 (by simp)
  replace q20 := K9.cell q20 (by simp)
  replace q21 := K9.cell q21 (by simp)
  replace q22 := K9.cell q22 (by simp)
  go_wp2_with fail
  refine (pmh _).mono ?_
  rintro e w10 ⟨rfl, k10⟩
  replace q10 := k10.cell q10 (by simp)
  replace q11 := k10.cell q11 (by simp)
  replace q12 := k10.cell q12 (by simp)
  replace q20 := k10.cell q20 (by simp)
  replace q21 := k10.cell q21 (by simp)
  replace q22 := k10.cell q22 (by simp)
  replace q30 := k10.cell q30 (by simp)
  replace q31 := k10.cell q31 (by simp)
  replace q32 := k10.cell q32 (by simp)
  go_wp2_with fail
  refine (v4 _).mono ?_
  rintro e w11 ⟨rfl, k11⟩
  obtain ⟨K11, q40, q41, q42⟩ := k11.loc (.bool q4.neg) (.string ⟨(dtxt q4.n).toArray⟩) (.int .i64 (q4.s : Int))
  replace q10 := K11.cell q10 (by simp)
  replace q11 := K11.cell q11 (by simp)
  replace q12 := K11.cell q12 (by simp)
  replace q20 := K11.cell q20 (by simp)
  replace q21 := K11.cell q21 (by simp)
  replace q22 := K11.cell q22 (by simp)
  replace q30 := K11.cell q30 (by simp)
  replace q31 := K11.cell q31 (by simp)
  replace q32 := K11.cell q32 (by simp)
  have KK := hid ((((((((((((Kp.refl [] w).nil k1).nil k2).nil K3).nil k4).nil k5).nil K6).nil k7).nil k8).nil K9).nil k10).nil K11)
  clear k1 k2 k3 k4 k5 k6 k7 k8 k9 k10 k11 K3 K6 K9 K11 pa1 pa8 pa2 pa3 pm7 ph25 pmh v1 v2 v3 v4
  go_wp2_with fail
  refine lin_start (fun w' => w'.cell? ⟨w3.heap.size, 0, none⟩ = some (Value.bool q1.neg) ∧ w'.cell? ⟨w3.heap.size, 1, none⟩ = some (Value.string ⟨(dtxt q1.n).toArray⟩) ∧ w'.cell? ⟨w3.heap.size, 2, none⟩ = some (Value.int .i64 (q1.s : Int)) ∧ w'.cell? ⟨w6.heap.size, 0, none⟩ = some (Value.bool q2.neg) ∧ w'.cell? ⟨w6.heap.size, 1, none⟩ = some (Value.string ⟨(dtxt q2.n).toArray⟩) ∧ w'.cell? ⟨w6.heap.size, 2, none⟩ = some (Value.int .i64 (q2.s : Int)) ∧ w'.cell? ⟨w9.heap.size, 0, none⟩ = some (Value.bool q3.neg) ∧ w'.cell? ⟨w9.heap.size, 1, none⟩ = some (Value.string ⟨(dtxt q3.n).toArray⟩) ∧ w'.cell? ⟨w9.heap.size, 2, none⟩ = some (Value.int .i64 (q3.s : Int)) ∧ w'.cell? ⟨w11.heap.size, 0, none⟩ = some (Value.bool q4.neg) ∧ w'.cell? ⟨w11.heap.size, 1, none⟩ = some (Value.string ⟨(dtxt q4.n).toArray⟩) ∧ w'.cell? ⟨w11.heap.size, 2, none⟩ = some (Value.int .i64 (q4.s : Int))) ((Stays.cell _ _).and ((Stays.cell _ _).and ((Stays.cell _ _).and ((Stays.cell _ _).and ((Stays.cell _ _).and ((Stays.cell _ _).and ((Stays.cell _ _).and ((Stays.cell _ _).and ((Stays.cell _ _).and ((Stays.cell _ _).and ((Stays.cell _ _).and ((Stays.cell _ _))))))))))))) (by kernel_rfl) ⟨q10, q11, q12, q20, q21, q22, q30, q31, q32, q40, q41, q42⟩ (fun hSS hS => ?_)
  refine lin_val (i := 0) (v := ?_) rfl (by kernel_rfl) (by kernel_rfl) (by kernel_rfl) (fun _ _ _ h => h) hSS hS rfl (fun w hSw => ?_) ?_
  rotate_left
  · obtain ⟨q0, q1, q2, q3, q4, q5, q6, q7, q8, q9, q10, q11⟩ := hSw; go_simp; first | done | with_reducible rfl
  simp only [Act.put, List.setIfInBounds_toArray, List.set_cons_zero, List.set_cons_succ]
  refine lin_call (i := 1) rfl (by kernel_rfl) (by kernel_rfl) (by kernel_rfl) (fun _ _ _ h => h) hSS hS rfl (fun w _ => pq1 w) (fun w hSw => ?_) ?_
  · obtain ⟨q0, q1, q2, q3, q4, q5, q6, q7, q8, q9, q10, q11⟩ := hSw; go_simp
  simp only [Act.put, List.setIfInBounds_toArray, List.set_cons_zero, List.set_cons_succ]
  refine lin_val (i := 2) (v := ?_) rfl (by kernel_rfl) (by kernel_rfl) (by kernel_rfl) (fun _ _ _ h => h) hSS hS rfl (fun w hSw => ?_) ?_
  rotate_left
  · obtain ⟨q0, q1, q2, q3, q4, q5, q6, q7, q8, q9, q10, q11⟩ := hSw; go_simp; first | done | with_reducible rfl
  simp only [Act.put, List.setIfInBounds_toArray, List.set_cons_zero, List.set_cons_succ]
  refine lin_val (i := 3) (v := ?_) rfl (by kernel_rfl) (by kernel_rfl) (by kernel_rfl) (fun _ _ _ h => h) hSS hS rfl (fun w hSw => ?_) ?_
  rotate_left
  · obtain ⟨q0, q1, q2, q3, q4, q5, q6, q7, q8, q9, q10, q11⟩ := hSw; go_simp; first | done | with_reducible rfl
  simp only [Act.put, List.setIfInBounds_toArray, List.set_cons_zero, List.set_cons_succ]
  refine lin_val (i := 4) (v := ?_) rfl (by kernel_rfl) (by kernel_rfl) (by kernel_rfl) (fun _ _ _ h => h) hSS hS rfl (fun w hSw => ?_) ?_
  rotate_left
  · obtain ⟨q0, q1, q2, q3, q4, q5, q6, q7, q8, q9, q10, q11⟩ := hSw; go_simp; first | done | with_reducible rfl
  simp only [Act.put, List.setIfInBounds_toArray, List.set_cons_zero, List.set_cons_succ]
  refine lin_val (i := 5) (v := ?_) rfl (by kernel_rfl) (by kernel_rfl) (by kernel_rfl) (fun _ _ _ h => h) hSS hS rfl (fun w hSw => ?_) ?_
  rotate_left
  · obtain ⟨q0, q1, q2, q3, q4, q5, q6, q7, q8, q9, q10, q11⟩ := hSw; go_simp; first | done | with_reducible rfl
  simp only [Act.put, List.setIfInBounds_toArray, List.set_cons_zero, List.set_cons_succ]
  refine lin_val (i := 6) (v := ?_) rfl (by kernel_rfl) (by kernel_rfl) (by kernel_rfl) (fun _ _ _ h => h) hSS hS rfl (fun w hSw => ?_) ?_
  rotate_left
  · obtain ⟨q0, q1, q2, q3, q4, q5, q6, q7, q8, q9, q10, q11⟩ := hSw; go_simp; first | done | with_reducible rfl
  simp only [Act.put, List.setIfInBounds_toArray, List.set_cons_zero, List.set_cons_succ]
  refine lin_val (i := 7) (v := ?_) rfl (by kernel_rfl) (by kernel_rfl) (by kernel_rfl) (fun _ _ _ h => h) hSS hS rfl (fun w hSw => ?_) ?_
  rotate_left
  · obtain ⟨q0, q1, q2, q3, q4, q5, q6, q7, q8, q9, q10, q11⟩ := hSw; go_simp; first | done | with_reducible rfl
  simp only [Act.put, List.setIfInBounds_toArray, List.set_cons_zero, List.set_cons_succ]
  refine lin_val (i := 8) (v := ?_) rfl (by kernel_rfl) (by kernel_rfl) (by kernel_rfl) (fun _ _ _ h => h) hSS hS rfl (fun w hSw => ?_) ?_
  rotate_left
  · obtain ⟨q0, q1, q2, q3, q4, q5, q6, q7, q8, q9, q10, q11⟩ := hSw; go_simp; first | done | with_reducible rfl
  simp only [Act.put, List.setIfInBounds_toArray, List.set_cons_zero, List.set_cons_succ]
  refine lin_call (i := 9) rfl (by kernel_rfl) (by kernel_rfl) (by kernel_rfl) (fun _ _ _ h => h) hSS hS rfl (fun w _ => pq2 w) (fun w hSw => ?_) ?_
  · obtain ⟨q0, q1, q2, q3, q4, q5, q6, q7, q8, q9, q10, q11⟩ := hSw; go_simp
  simp only [Act.put, List.setIfInBounds_toArray, List.set_cons_zero, List.set_cons_succ]
  refine lin_val (i := 10) (v := ?_) rfl (by kernel_rfl) (by kernel_rfl) (by kernel_rfl) (fun _ _ _ h => h) hSS hS rfl (fun w hSw => ?_) ?_
  rotate_left
  · obtain ⟨q0, q1, q2, q3, q4, q5, q6, q7, q8, q9, q10, q11⟩ := hSw; go_simp; first | done | with_reducible rfl
  simp only [Act.put, List.setIfInBounds_toArray, List.set_cons_zero, List.set_cons_succ]
  refine lin_val (i := 11) (v := ?_) rfl (by kernel_rfl) (by kernel_rfl) (by kernel_rfl) (fun _ _ _ h => h) hSS hS rfl (fun w hSw => ?_) ?_
  rotate_left
  · obtain ⟨q0, q1, q2, q3, q4, q5, q6, q7, q8, q9, q10, q11⟩ := hSw; go_simp; first | done | with_reducible rfl
  simp only [Act.put, List.setIfInBounds_toArray, List.set_cons_zero, List.set_cons_succ]
  refine lin_val (i := 12) (v := ?_) rfl (by kernel_rfl) (by kernel_rfl) (by kernel_rfl) (fun _ _ _ h => h) hSS hS rfl (fun w hSw => ?_) ?_
  rotate_left
  · obtain ⟨q0, q1, q2, q3, q4, q5, q6, q7, q8, q9, q10, q11⟩ := hSw; go_simp; first | done | with_reducible rfl
  simp only [Act.put, List.setIfInBounds_toArray, List.set_cons_zero, List.set_cons_succ]
  refine lin_val (i := 13) (v := ?_) rfl (by kernel_rfl) (by kernel_rfl) (by kernel_rfl) (fun _ _ _ h => h) hSS hS rfl (fun w hSw => ?_) ?_
  rotate_left
  · obtain ⟨q0, q1, q2, q3, q4, q5, q6, q7, q8, q9, q10, q11⟩ := hSw; go_simp; first | done | with_reducible rfl
  simp only [Act.put, List.setIfInBounds_toArray, List.set_cons_zero, List.set_cons_succ]
  refine lin_val (i := 14) (v := ?_) rfl (by kernel_rfl) (by kernel_rfl) (by kernel_rfl) (fun _ _ _ h => h) hSS hS rfl (fun w hSw => ?_) ?_
  rotate_left
  · obtain ⟨q0, q1, q2, q3, q4, q5, q6, q7, q8, q9, q10, q11⟩ := hSw; go_simp; first | done | with_reducible rfl
  simp only [Act.put, List.setIfInBounds_toArray, List.set_cons_zero, List.set_cons_succ]
  refine lin_val (i := 15) (v := ?_) rfl (by kernel_rfl) (by kernel_rfl) (by kernel_rfl) (fun _ _ _ h => h) hSS hS rfl (fun w hSw => ?_) ?_
  rotate_left
  · obtain ⟨q0, q1, q2, q3, q4, q5, q6, q7, q8, q9, q10, q11⟩ := hSw; go_simp; first | done | with_reducible rfl
  simp only [Act.put, List.setIfInBounds_toArray, List.set_cons_zero, List.set_cons_succ]
  refine lin_val (i := 16) (v := ?_) rfl (by kernel_rfl) (by kernel_rfl) (by kernel_rfl) (fun _ _ _ h => h) hSS hS rfl (fun w hSw => ?_) ?_
  rotate_left
  · obtain ⟨q0, q1, q2, q3, q4, q5, q6, q7, q8, q9, q10, q11⟩ := hSw; go_simp; first | done | with_reducible rfl
  simp only [Act.put, List.setIfInBounds_toArray, List.set_cons_zero, List.set_cons_succ]
  refine lin_val (i := 17) (v := ?_) rfl (by kernel_rfl) (by kernel_rfl) (by kernel_rfl) (fun _ _ _ h => h) hSS hS rfl (fun w hSw => ?_) ?_
  rotate_left
  · obtain ⟨q0, q1, q2, q3, q4, q5, q6, q7, q8, q9, q10, q11⟩ := hSw; go_simp; first | done | with_reducible rfl
  simp only [Act.put, List.setIfInBounds_toArray, List.set_cons_zero, List.set_cons_succ]
  refine lin_call (i := 18) rfl (by kernel_rfl) (by kernel_rfl) (by kernel_rfl) (fun _ _ _ h => h) hSS hS rfl (fun w _ => pq3 w) (fun w hSw => ?_) ?_
  · obtain ⟨q0, q1, q2, q3, q4, q5, q6, q7, q8, q9, q10, q11⟩ := hSw; go_simp
  simp only [Act.put, List.setIfInBounds_toArray, List.set_cons_zero, List.set_cons_succ]
  refine lin_val (i := 19) (v := ?_) rfl (by kernel_rfl) (by kernel_rfl) (by kernel_rfl) (fun _ _ _ h => h) hSS hS rfl (fun w hSw => ?_) ?_
  rotate_left
  · obtain ⟨q0, q1, q2, q3, q4, q5, q6, q7, q8, q9, q10, q11⟩ := hSw; go_simp; first | done | with_reducible rfl
  simp only [Act.put, List.setIfInBounds_toArray, List.set_cons_zero, List.set_cons_succ]
  refine lin_val (i := 20) (v := ?_) rfl (by kernel_rfl) (by kernel_rfl) (by kernel_rfl) (fun _ _ _ h => h) hSS hS rfl (fun w hSw => ?_) ?_
  rotate_left
  · obtain ⟨q0, q1, q2, q3, q4, q5, q6, q7, q8, q9, q10, q11⟩ := hSw; go_simp; first | done | with_reducible rfl
  simp only [Act.put, List.setIfInBounds_toArray, List.set_cons_zero, List.set_cons_succ]
  refine lin_val (i := 21) (v := ?_) rfl (by kernel_rfl) (by kernel_rfl) (by kernel_rfl) (fun _ _ _ h => h) hSS hS rfl (fun w hSw => ?_) ?_
  rotate_left
  · obtain ⟨q0, q1, q2, q3, q4, q5, q6, q7, q8, q9, q10, q11⟩ := hSw; go_simp; first | done | with_reducible rfl
  simp only [Act.put, List.setIfInBounds_toArray, List.set_cons_zero, List.set_cons_succ]
  refine lin_val (i := 22) (v := ?_) rfl (by kernel_rfl) (by kernel_rfl) (by kernel_rfl) (fun _ _ _ h => h) hSS hS rfl (fun w hSw => ?_) ?_
  rotate_left
  · obtain ⟨q0, q1, q2, q3, q4, q5, q6, q7, q8, q9, q10, q11⟩ := hSw; go_simp; first | done | with_reducible rfl
  simp only [Act.put, List.setIfInBounds_toArray, List.set_cons_zero, List.set_cons_succ]
  refine lin_val (i := 23) (v := ?_) rfl (by kernel_rfl) (by kernel_rfl) (by kernel_rfl) (fun _ _ _ h => h) hSS hS rfl (fun w hSw => ?_) ?_
  rotate_left
  · obtain ⟨q0, q1, q2, q3, q4, q5, q6, q7, q8, q9, q10, q11⟩ := hSw; go_simp; first | done | with_reducible rfl
  simp only [Act.put, List.setIfInBounds_toArray, List.set_cons_zero, List.set_cons_succ]
  refine lin_val (i := 24) (v := ?_) rfl (by kernel_rfl) (by kernel_rfl) (by kernel_rfl) (fun _ _ _ h => h) hSS hS rfl (fun w hSw => ?_) ?_
  rotate_left
  · obtain ⟨q0, q1, q2, q3, q4, q5, q6, q7, q8, q9, q10, q11⟩ := hSw; go_simp; first | done | with_reducible rfl
  simp only [Act.put, List.setIfInBounds_toArray, List.set_cons_zero, List.set_cons_succ]
  refine lin_val (i := 25) (v := ?_) rfl (by kernel_rfl) (by kernel_rfl) (by kernel_rfl) (fun _ _ _ h => h) hSS hS rfl (fun w hSw => ?_) ?_
  rotate_left
  · obtain ⟨q0, q1, q2, q3, q4, q5, q6, q7, q8, q9, q10, q11⟩ := hSw; go_simp; first | done | with_reducible rfl
  simp only [Act.put, List.setIfInBounds_toArray, List.set_cons_zero, List.set_cons_succ]
  refine lin_val (i := 26) (v := ?_) rfl (by kernel_rfl) (by kernel_rfl) (by kernel_rfl) (fun _ _ _ h => h) hSS hS rfl (fun w hSw => ?_) ?_
  rotate_left
  · obtain ⟨q0, q1, q2, q3, q4, q5, q6, q7, q8, q9, q10, q11⟩ := hSw; go_simp; first | done | with_reducible rfl
  simp only [Act.put, List.setIfInBounds_toArray, List.set_cons_zero, List.set_cons_succ]
  refine lin_call (i := 27) rfl (by kernel_rfl) (by kernel_rfl) (by kernel_rfl) (fun _ _ _ h => h) hSS hS rfl (fun w _ => pq4 w) (fun w hSw => ?_) ?_
  · obtain ⟨q0, q1, q2, q3, q4, q5, q6, q7, q8, q9, q10, q11⟩ := hSw; go_simp
  simp only [Act.put, List.setIfInBounds_toArray, List.set_cons_zero, List.set_cons_succ]
  refine lin_val (i := 28) (v := ?_) rfl (by kernel_rfl) (by kernel_rfl) (by kernel_rfl) (fun _ _ _ h => h) hSS hS rfl (fun w hSw => ?_) ?_
  rotate_left
  · obtain ⟨q0, q1, q2, q3, q4, q5, q6, q7, q8, q9, q10, q11⟩ := hSw; go_simp; first | done | with_reducible rfl
  simp only [Act.put, List.setIfInBounds_toArray, List.set_cons_zero, List.set_cons_succ]
  refine lin_val (i := 29) (v := ?_) rfl (by kernel_rfl) (by kernel_rfl) (by kernel_rfl) (fun _ _ _ h => h) hSS hS rfl (fun w hSw => ?_) ?_
  rotate_left
  · obtain ⟨q0, q1, q2, q3, q4, q5, q6, q7, q8, q9, q10, q11⟩ := hSw; go_simp; first | done | with_reducible rfl
  simp only [Act.put, List.setIfInBounds_toArray, List.set_cons_zero, List.set_cons_succ]
  refine lin_val (i := 30) (v := ?_) rfl (by kernel_rfl) (by kernel_rfl) (by kernel_rfl) (fun _ _ _ h => h) hSS hS rfl (fun w hSw => ?_) ?_
  rotate_left
  · obtain ⟨q0, q1, q2, q3, q4, q5, q6, q7, q8, q9, q10, q11⟩ := hSw; go_simp; first | done | with_reducible rfl
  simp only [Act.put, List.setIfInBounds_toArray, List.set_cons_zero, List.set_cons_succ]
  refine lin_val (i := 31) (v := ?_) rfl (by kernel_rfl) (by kernel_rfl) (by kernel_rfl) (fun _ _ _ h => h) hSS hS rfl (fun w hSw => ?_) ?_
  rotate_left
  · obtain ⟨q0, q1, q2, q3, q4, q5, q6, q7, q8, q9, q10, q11⟩ := hSw; go_simp; first | done | with_reducible rfl
  simp only [Act.put, List.setIfInBounds_toArray, List.set_cons_zero, List.set_cons_succ]
  refine lin_val (i := 32) (v := ?_) rfl (by kernel_rfl) (by kernel_rfl) (by kernel_rfl) (fun _ _ _ h => h) hSS hS rfl (fun w hSw => ?_) ?_
  rotate_left
  · obtain ⟨q0, q1, q2, q3, q4, q5, q6, q7, q8, q9, q10, q11⟩ := hSw; go_simp; first | done | with_reducible rfl
  simp only [Act.put, List.setIfInBounds_toArray, List.set_cons_zero, List.set_cons_succ]
  refine lin_val (i := 33) (v := ?_) rfl (by kernel_rfl) (by kernel_rfl) (by kernel_rfl) (fun _ _ _ h => h) hSS hS rfl (fun w hSw => ?_) ?_
  rotate_left
  · obtain ⟨q0, q1, q2, q3, q4, q5, q6, q7, q8, q9, q10, q11⟩ := hSw; go_simp; first | done | with_reducible rfl
  simp only [Act.put, List.setIfInBounds_toArray, List.set_cons_zero, List.set_cons_succ]
  refine lin_val (i := 34) (v := ?_) rfl (by kernel_rfl) (by kernel_rfl) (by kernel_rfl) (fun _ _ _ h => h) hSS hS rfl (fun w hSw => ?_) ?_
  rotate_left
  · obtain ⟨q0, q1, q2, q3, q4, q5, q6, q7, q8, q9, q10, q11⟩ := hSw; go_simp; first | done | with_reducible rfl
  simp only [Act.put, List.setIfInBounds_toArray, List.set_cons_zero, List.set_cons_succ]
  refine lin_done (by kernel_rfl) (fun wq kq => ?_) _
  clear hS hSS
  go_wp2_with fail
  go_ret
  exact ⟨rfl, KK.out.drew.nil kq⟩
end Go.Proofs.YtampgimmodomoaaDoor
