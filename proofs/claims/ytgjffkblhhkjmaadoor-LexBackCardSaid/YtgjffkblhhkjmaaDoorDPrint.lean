/- Print of layer 1. -/
import Derived.Test.YtgjffkblhhkjmaaDoorDRoom
import Derived.Deep.RegionHeld3
namespace Go.Proofs.YtgjffkblhhkjmaaDoor
open Go Go.RowKit Go.Lib

set_option maxRecDepth 100000 in
set_option maxHeartbeats 6400000 in
theorem print_any (w : World) (d : Dc) (h1 : (dtxt d.n).length ≤ 1000) (h2 : d.s ≤ 1000) :
    Calls Tryd.prog 60 #[.agg #[.bool d.neg, .string ⟨(dtxt d.n).toArray⟩, .int .i64 (d.s : Int)]] w fun e w' => e = .returned (.string ⟨(printL d).toArray⟩) ∧ Kp [] w w' := by
  have hpl : padL d = List.replicate (d.s + 1 - (dtxt d.n).length) 48 ++ dtxt d.n := rfl
  have hlen := (padL_ok d).2.2
  have hpr : printL d = (if d.neg then [45] else []) ++ (if d.s = 0 then padL d else (padL d).take ((padL d).length - d.s) ++ 46 :: (padL d).drop ((padL d).length - d.s)) := rfl
  obtain ⟨n, hn⟩ : ∃ n, n = d.s + 1 - (dtxt d.n).length := ⟨_, rfl⟩
  obtain ⟨D, hD⟩ : ∃ D, D = dtxt d.n := ⟨_, rfl⟩
  obtain ⟨neg, hneg⟩ : ∃ neg, neg = d.neg := ⟨_, rfl⟩
  obtain ⟨s, hs⟩ : ∃ s, s = d.s := ⟨_, rfl⟩
  obtain ⟨O, hO⟩ : ∃ O, O = printL d := ⟨_, rfl⟩
  obtain ⟨J, hJ⟩ : ∃ J, J = padL d := ⟨_, rfl⟩
  rw [← hO, ← hneg, ← hs, ← hJ] at hpr
  rw [← hJ, ← hn, ← hD] at hpl
  rw [← hJ, ← hs] at hlen
  rw [← hs, ← hD] at hn
  rw [← hD] at h1
  rw [← hs] at h2
  rw [← hO, ← hneg, ← hs, ← hD]
  clear hO hneg hs hD hJ
  obtain ⟨x, hx⟩ : ∃ x : Int, x = (s : Int) + 1 - (D.length : Int) := ⟨_, rfl⟩
  have w1 : IntKind.i64.wrap ((s : Int) + 1) = (s : Int) + 1 := IntWalk.i64_in _ (by omega)
  have w2 : IntKind.i64.wrap ((s : Int) + 1 - (D.length : Int)) = x := by rw [IntWalk.i64_in _ (by omega)]; exact hx.symm
  have hmx : max 0 x = (n : Int) := by omega
  have hJl : J.length = n + D.length := by rw [hpl, List.length_append, List.length_replicate]
  have qR := fun X => repeat_any X n (by omega)
  have hadd := fun X => run_add_text (P := Tryd.prog) (List.replicate n 48) D J hpl (by rw [List.length_replicate]; omega) X
  obtain ⟨Z, hZ⟩ : ∃ Z : List UInt8, Z = List.replicate n 48 := ⟨_, rfl⟩
  simp only [← hZ] at qR hadd
  have hJ9 : J.length ≤ 3000 := by omega
  have hDs : (⟨D.toArray⟩ : ByteArray).size = D.length := size_mk _
  have hJs : (⟨J.toArray⟩ : ByteArray).size = J.length := size_mk _
  have Hpr := hid hpr
  clear hpr hpl hZ hn hx h1 hJl
  have e45 : ∀ X (l : List UInt8), l.length ≤ 10000 → (Op.stringOp .add ⟨#[45]⟩ ⟨l.toArray⟩).run Tryd.prog X = .ok (.string ⟨([45] ++ l).toArray⟩) X := fun X l h => run_add_text (P := Tryd.prog) [45] l ([45] ++ l) rfl (by simp; omega) X
  have e0 : ∀ X (l : List UInt8), l.length ≤ 10000 → (Op.stringOp .add ⟨#[]⟩ ⟨l.toArray⟩).run Tryd.prog X = .ok (.string ⟨l.toArray⟩) X := fun X l h => run_add_text (P := Tryd.prog) [] l l rfl (by simp; omega) X
  have E45 := hid e45
  have E0 := hid e0
  clear e45 e0
  have HK := hid ((Kp.refl [] w).alloc (.cells #[.bool neg, .string ⟨D.toArray⟩, .int .i64 (s : Int)] 47))
  by_cases hs0 : s = 0
  · have ea := fun X => E45.out X J (by omega)
    have eb := fun X => E0.out X J (by omega)
    have HR : Hid (O = (if neg then [45] else []) ++ J) := by rw [Hpr.out, if_pos hs0]; exact hid rfl
    have hsb : ((s : Int) == 0) = true := by rw [beq_iff_eq]; omega
    clear hs0
    go_enter Tryd.func60, Tryd.ntmps60
    go_wp2_with fail
    have hC := Cells.fresh w 47 [.bool neg, .string ⟨D.toArray⟩, .int .i64 (s : Int)]
    have HC := hid hC
    clear hC
    go_region_held3 (fun w' => w'.cell? ⟨w.heap.size, 1, none⟩ = some (.string ⟨D.toArray⟩) ∧ w'.cell? ⟨w.heap.size, 2, none⟩ = some (.int .i64 (s : Int)))
      (first | exact ⟨y1, y2⟩ | go_keep)
      (first
        | (go_at_call 78; (with_reducible refine (qR _).mono ?_); rintro e w5 ⟨rfl, k5⟩; have y0 := k5.cell (HC.out.cell 0) (by simp); have y1 := k5.cell (HC.out.cell 1) (by simp); have y2 := k5.cell (HC.out.cell 2) (by simp)))
    have HF := hid (HK.out.drew.nil k5)
    clear k5
    cases neg
    all_goals
      go_wp2_with fail
      go_ret
      exact ⟨by rw [HR.out]; rfl, HF.out⟩
  · have hsb : ((s : Int) == 0) = false := by rw [beq_eq_false_iff_ne]; omega
    obtain ⟨p, hp⟩ : ∃ p, p = J.length - s := ⟨_, rfl⟩
    have HR : Hid (O = (if neg then [45] else []) ++ (J.take p ++ 46 :: J.drop p)) := by rw [Hpr.out, if_neg hs0, hp]; exact hid rfl
    have x1 := extract_mk J 0 p
    have x2 := extract_mk J p J.length
    rw [List.drop_zero] at x1
    rw [List.take_length] at x2
    have hsub : (J.length : Int) - (s : Int) = (p : Int) := by omega
    have i1 : (0 : Int) ≤ (p : Int) := by omega
    have i2 : (p : Int) ≤ (J.length : Int) := by omega
    have lP : (J.take p).length ≤ 3000 := by rw [List.length_take]; omega
    have lQ : (J.drop p).length ≤ 3000 := by rw [List.length_drop]; omega
    obtain ⟨P, hP⟩ : ∃ P, P = J.take p := ⟨_, rfl⟩
    obtain ⟨Q, hQ⟩ : ∃ Q, Q = J.drop p := ⟨_, rfl⟩
    simp only [← hP, ← hQ] at x1 x2 lP lQ HR
    have ea := fun X => E45.out X P (by omega)
    have eb := fun X => E0.out X P (by omega)
    have ec : ∀ X (l : List UInt8), l.length ≤ 10000 → (Op.stringOp .add ⟨l.toArray⟩ ⟨#[46]⟩).run Tryd.prog X = .ok (.string ⟨(l ++ [46]).toArray⟩) X := fun X l h => run_add_text (P := Tryd.prog) l [46] (l ++ [46]) rfl (by simp; omega) X
    have ed : ∀ X (l : List UInt8), l.length ≤ 10000 → (Op.stringOp .add ⟨l.toArray⟩ ⟨Q.toArray⟩).run Tryd.prog X = .ok (.string ⟨(l ++ Q).toArray⟩) X := fun X l h => run_add_text (P := Tryd.prog) l Q (l ++ Q) rfl (by omega) X
    have ec1 := fun X => ec X ([45] ++ P) (by simp; omega)
    have ec2 := fun X => ec X P (by omega)
    have ed1 := fun X => ed X ([45] ++ P ++ [46]) (by simp; omega)
    have ed2 := fun X => ed X (P ++ [46]) (by simp; omega)
    obtain ⟨T1, hT1⟩ : ∃ T1, T1 = [45] ++ P := ⟨_, rfl⟩
    simp only [← hT1] at ea ec1 ed1
    obtain ⟨T2, hT2⟩ : ∃ T2, T2 = T1 ++ [46] := ⟨_, rfl⟩
    obtain ⟨T3, hT3⟩ : ∃ T3, T3 = P ++ [46] := ⟨_, rfl⟩
    simp only [← hT2] at ec1 ed1
    simp only [← hT3] at ec2 ed2
    obtain ⟨T4, hT4⟩ : ∃ T4, T4 = T2 ++ Q := ⟨_, rfl⟩
    obtain ⟨T5, hT5⟩ : ∃ T5, T5 = T3 ++ Q := ⟨_, rfl⟩
    simp only [← hT4] at ed1
    simp only [← hT5] at ed2
    have HT := hid (And.intro hT1 (And.intro hT2 (And.intro hT3 (And.intro hT4 hT5))))
    clear hs0 hp hP hQ hT1 hT2 hT3 hT4 hT5 ec ed
    go_enter Tryd.func60, Tryd.ntmps60
    go_wp2_with fail
    have hC := Cells.fresh w 47 [.bool neg, .string ⟨D.toArray⟩, .int .i64 (s : Int)]
    have HC := hid hC
    clear hC
    go_region_held3 (fun w' => w'.cell? ⟨w.heap.size, 1, none⟩ = some (.string ⟨D.toArray⟩) ∧ w'.cell? ⟨w.heap.size, 2, none⟩ = some (.int .i64 (s : Int)))
      (first | exact ⟨y1, y2⟩ | go_keep)
      (first
        | (go_at_call 78; (with_reducible refine (qR _).mono ?_); rintro e w5 ⟨rfl, k5⟩; have y0 := k5.cell (HC.out.cell 0) (by simp); have y1 := k5.cell (HC.out.cell 1) (by simp); have y2 := k5.cell (HC.out.cell 2) (by simp)))
    have HF := hid (HK.out.drew.nil k5)
    clear k5
    cases neg
    all_goals
      go_wp2_with fail
      go_quiet (fail)
      go_wp2_with fail
      go_ret
      refine ⟨?_, HF.out.drewN _⟩
      obtain ⟨r1, r2, r3, r4, r5⟩ := HT.out
      rw [HR.out]
      first
        | (show Ending.returned (.string ⟨T4.toArray⟩) = _; rw [r4, r2, r1]; simp)
        | (show Ending.returned (.string ⟨T5.toArray⟩) = _; rw [r5, r3]; simp)
end Go.Proofs.YtgjffkblhhkjmaaDoor
