/- The document's answer for layer 1: a decimal's text. -/
import Derived.Test.YtpeldjihalldkaaDoorRH
import Derived.Test.YtpeldjihalldkaaDoorRD
namespace Go.Proofs.YtpeldjihalldkaaDoor
open Go Go.RowKit Go.Lib

theorem bytes_cons (l : List UInt8) : (⟨#[45]⟩ : ByteArray) ++ ⟨l.toArray⟩ = ⟨(45 :: l).toArray⟩ := by
  apply ByteArray.ext
  simp
set_option maxRecDepth 100000 in
set_option maxHeartbeats 6400000 in
theorem rprint_any (w : World) (d : Dc) (h1 : (dtxt d.n).length ≤ 1000) (h2 : d.s ≤ 1000) :
    Calls Tryd.prog 49 #[.agg #[.bool d.neg, .string ⟨(dtxt d.n).toArray⟩, .int .i64 (d.s : Int)]] w fun e w' => e = .returned (.string ⟨(printL d).toArray⟩) ∧ Kp [] w w' := by
  have hpl : padL d = List.replicate (d.s + 1 - (dtxt d.n).length) 48 ++ dtxt d.n := rfl
  have hlen := (padL_ok d).2.2
  have hD1 := length_dtxt d.n
  have hpr : printL d = (if d.neg then [45] else []) ++ (if d.s = 0 then padL d else (padL d).take ((padL d).length - d.s) ++ 46 :: (padL d).drop ((padL d).length - d.s)) := rfl
  obtain ⟨n, hn⟩ : ∃ n, n = d.s + 1 - (dtxt d.n).length := ⟨_, rfl⟩
  obtain ⟨D, hD⟩ : ∃ D, D = dtxt d.n := ⟨_, rfl⟩
  obtain ⟨neg, hneg⟩ : ∃ neg, neg = d.neg := ⟨_, rfl⟩
  obtain ⟨s, hs⟩ : ∃ s, s = d.s := ⟨_, rfl⟩
  obtain ⟨O, hO⟩ : ∃ O, O = printL d := ⟨_, rfl⟩
  obtain ⟨J, hJ⟩ : ∃ J, J = padL d := ⟨_, rfl⟩
  rw [← hO, ← hneg, ← hs, ← hJ] at hpr
  rw [← hJ, ← hn, ← hD] at hpl
  rw [← hJ, ← hs] at hlen
  rw [← hs, ← hD] at hn
  rw [← hD] at h1 hD1
  rw [← hs] at h2
  rw [← hO, ← hneg, ← hs, ← hD]
  clear hO hneg hs hD hJ
  have hJl : J.length = n + D.length := by rw [hpl, List.length_append, List.length_replicate]
  have qR := fun X => rzeros_any X n (by omega)
  have hadd := fun X => run_add_text (P := Tryd.prog) (List.replicate n 48) D J hpl (by rw [List.length_replicate]; omega) X
  have hJD : n = 0 → J = D := fun h => by rw [hpl, h]; rfl
  obtain ⟨Z, hZ⟩ : ∃ Z : List UInt8, Z = List.replicate n 48 := ⟨_, rfl⟩
  simp only [← hZ] at qR hadd
  have hJ9 : J.length ≤ 3000 := by omega
  have hDs : (⟨D.toArray⟩ : ByteArray).size = D.length := size_mk _
  have hJs : (⟨J.toArray⟩ : ByteArray).size = J.length := size_mk _
  have Hpr := hid hpr
  clear hpr hpl hZ
  have e45 : ∀ X (l : List UInt8), l.length ≤ 10000 → (Op.stringOp .add ⟨#[45]⟩ ⟨l.toArray⟩).run Tryd.prog X = .ok (.string ⟨([45] ++ l).toArray⟩) X := fun X l h => run_add_text (P := Tryd.prog) [45] l ([45] ++ l) rfl (by simp; omega) X
  have E45 := hid e45
  clear e45
  have HK := hid ((Kp.refl [] w).alloc (.cells #[.bool neg, .string ⟨D.toArray⟩, .int .i64 (s : Int)] 26))
  by_cases hs0 : s = 0
  · have hJ0 : J = D := hJD (by omega)
    subst hJ0
    have ea := fun X => E45.out X J (by omega)
    have HR : Hid (O = (if neg then [45] else []) ++ J) := by rw [Hpr.out, if_pos hs0]; exact hid rfl
    have hb1 : decide (J.length ≤ s) = false := decide_eq_false (by omega)
    have hs1 : decide (0 < s) = false := decide_eq_false (by omega)
    clear hs0
    clear qR hadd hJD hJl hlen hn
    cases neg
    all_goals
      go_enter Tryd.func49, Tryd.ntmps49
      go_wp2_with fail
      go_ret
      exact ⟨by rw [HR.out]; first | rfl | (rw [← bytes_cons]; rfl), HK.out⟩
  · obtain ⟨p, hp⟩ : ∃ p, p = J.length - s := ⟨_, rfl⟩
    have HR : Hid (O = (if neg then [45] else []) ++ (J.take p ++ 46 :: J.drop p)) := by rw [Hpr.out, if_neg hs0, hp]; exact hid rfl
    have x1 := extract_mk J 0 p
    have x2 := extract_mk J p J.length
    rw [List.drop_zero] at x1
    rw [List.take_length] at x2
    have hsub : (J.length : Int) - (s : Int) = (p : Int) := by omega
    have i1 : (0 : Int) ≤ (p : Int) := by omega
    have i2 : (p : Int) ≤ (J.length : Int) := by omega
    have lP : (J.take p).length ≤ 3000 := by rw [List.length_take]; omega
    have lQ : (J.drop p).length ≤ 3000 := by rw [List.length_drop]; omega
    obtain ⟨P, hP⟩ : ∃ P, P = J.take p := ⟨_, rfl⟩
    obtain ⟨Q, hQ⟩ : ∃ Q, Q = J.drop p := ⟨_, rfl⟩
    simp only [← hP, ← hQ] at x1 x2 lP lQ HR
    have ec := fun X => run_add_text (P := Tryd.prog) P [46] (P ++ [46]) rfl (by simp; omega) X
    have ed := fun X => run_add_text (P := Tryd.prog) (P ++ [46]) Q (P ++ [46] ++ Q) rfl (by simp; omega) X
    obtain ⟨T1, hT1⟩ : ∃ T1, T1 = P ++ [46] := ⟨_, rfl⟩
    simp only [← hT1] at ec ed
    obtain ⟨T2, hT2⟩ : ∃ T2, T2 = T1 ++ Q := ⟨_, rfl⟩
    simp only [← hT2] at ed
    have ea := fun X => E45.out X T2 (by rw [hT2, hT1]; simp; omega)
    have HT := hid (And.intro hT1 hT2)
    have hs1 : decide (0 < s) = true := decide_eq_true (by omega)
    clear hp hP hQ hT1 hT2
    by_cases hle : D.length ≤ s
    · have hb1 : decide (D.length ≤ s) = true := decide_eq_true (by omega)
      have hni : (s : Int) - (D.length : Int) + 1 = (n : Int) := by omega
      clear hs0 hJD hn hJl
      cases neg
      all_goals
        go_enter Tryd.func49, Tryd.ntmps49
        go_wp2_with fail
        (with_reducible refine (qR _).mono ?_)
        rintro e w1 ⟨rfl, rfl⟩
        go_wp2_with fail
        go_quiet (fail)
        go_wp2_with fail
        go_ret
        refine ⟨?_, HK.out.drewN _⟩
        obtain ⟨r1, r2⟩ := HT.out
        rw [HR.out]
        first
          | (show Ending.returned (.string ⟨T2.toArray⟩) = _; rw [r2, r1]; simp)
          | (show Ending.returned (.string ⟨([45] ++ T2).toArray⟩) = _; rw [r2, r1]; simp)
          | (show Ending.returned (.string (⟨#[45]⟩ ++ ⟨T2.toArray⟩)) = _; rw [bytes_cons, r2, r1]; simp)
    · have hb1 : decide (D.length ≤ s) = false := decide_eq_false (by omega)
      have hJ0 : J = D := hJD (by omega)
      subst hJ0
      clear hs0 hJD hn hJl qR hadd
      cases neg
      all_goals
        go_enter Tryd.func49, Tryd.ntmps49
        go_wp2_with fail
        go_quiet (fail)
        go_wp2_with fail
        go_ret
        refine ⟨?_, HK.out.drewN _⟩
        obtain ⟨r1, r2⟩ := HT.out
        rw [HR.out]
        first
          | (show Ending.returned (.string ⟨T2.toArray⟩) = _; rw [r2, r1]; simp)
          | (show Ending.returned (.string ⟨([45] ++ T2).toArray⟩) = _; rw [r2, r1]; simp)
          | (show Ending.returned (.string (⟨#[45]⟩ ++ ⟨T2.toArray⟩)) = _; rw [bytes_cons, r2, r1]; simp)
end Go.Proofs.YtpeldjihalldkaaDoor
