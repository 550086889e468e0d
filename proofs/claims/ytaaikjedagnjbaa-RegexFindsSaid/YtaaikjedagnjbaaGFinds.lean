/- The statement RegexFinds, walked. -/
import Derived.Test.YtaaikjedagnjbaaGFParse
import Derived.Test.YtaaikjedagnjbaaGShown
import Derived.Deep.DeepCutAuto
namespace Go.Proofs.Ytaaikjedagnjbaa
open Go Go.RowKit Go.Lib

theorem found_same {S : List Nat} {r : Re} {p q p' q' : Int} (h : FoundR S r p q) (h' : FoundR S r p' q') : p' = p ∧ q' = q := by
  rcases h with ⟨h1, h2, h3⟩ | ⟨a, b, h1, h2, h3, h4, h5, h6⟩ <;> rcases h' with ⟨g1, g2, g3⟩ | ⟨a', b', g1, g2, g3, g4, g5, g6⟩
  · omega
  · exact absurd g4 (h3 a' b' g3)
  · exact absurd h4 (g3 a b h3)
  · have ha : a = a' := by
      rcases Nat.lt_trichotomy a a' with h | h | h
      · exact absurd h4 (g5 a b h)
      · exact h
      · exact absurd g4 (h5 a' b' h)
    subst ha
    have := h6 b' g4
    have := g6 b h4
    omega
theorem whole_same {re s : ByteArray} {b b' : Bool} (h : WholeP re s b) (h' : WholeP re s b') : b' = b := by
  unfold WholeP at h h'
  cases hr : reR re with
  | none => rw [hr] at h h'; rw [h, h']
  | some r =>
    rw [hr] at h h'
    rw [Bool.eq_iff_iff]
    exact h'.trans h.symm
theorem find_same {re s : ByteArray} {p q p' q' : Int} (h : FindP re s p q) (h1 : codeR re ≠ 0 → p' = 0 ∧ q' = 0) (h2 : ∀ r, reR re = some r → FoundR (cps s) r p' q') : p' = p ∧ q' = q := by
  unfold FindP at h
  cases hr : reR re with
  | none =>
    rw [hr] at h
    have := h1 (by have := code_none hr; omega)
    have h : p = 0 ∧ q = 0 := h
    omega
  | some r =>
    rw [hr] at h
    exact found_same h (h2 r hr)
theorem find_same2 {re s : ByteArray} {p q p' q' : Int} (h : FindP re s p q) (h' : FindP re s p' q') : p' = p ∧ q' = q := by
  unfold FindP at h h'
  cases hr : reR re with
  | none =>
    rw [hr] at h h'
    have h : p = 0 ∧ q = 0 := h
    have h' : p' = 0 ∧ q' = 0 := h'
    omega
  | some r =>
    rw [hr] at h h'
    exact found_same h h'
set_option maxRecDepth 100000 in
set_option maxHeartbeats 25600000 in
theorem finds_any (w : World) (re : ByteArray) (hre : re.size ≤ 9223372036854775807) (s : ByteArray) (hs : s.size ≤ 9223372036854775807) :
    Calls Try.prog 3 #[.string re, .string s] w fun e w' => e = .returned (.bool true) ∧ Kp [] w w' := by
  have qh := shown_any w
  have qr := fun W => short_any W re hre
  have qs := fun W => few_any W s hs
  have zfr := first_size 110 re
  have zfs := first_size 40 s
  have vfr : okS (firstS 110 re) := first_valid 110 re
  have vfs : okS (firstS 40 s) := first_valid 40 s
  obtain ⟨fr, hfr⟩ : ∃ t, t = firstS 110 re := ⟨_, rfl⟩
  obtain ⟨fs, hfs⟩ : ∃ t, t = firstS 40 s := ⟨_, rfl⟩
  rw [← hfr] at zfr vfr qr
  rw [← hfs] at zfs vfs qs
  have qp := fun W => parsed_any W fr vfr (by omega)
  have q1 := fun W => whole_any W fr fs (by omega) (by omega)
  have q2 := fun W => wholed_any W fr fs qp vfs (by omega)
  have q3 := fun W => find_any W fr fs (by omega) (by omega)
  have q4 := fun W => findd_any W fr fs qp vfs (by omega)
  have q5 := fun W => test_any W fr fs (by omega) (by omega)
  have q6 := fun W => may_any W fr (by omega)
  unfold ParseP at qp
  obtain ⟨cd, hcd⟩ : ∃ c, c = codeR fr := ⟨_, rfl⟩
  rw [← hcd] at qp q1 q2 q3 q4 q5 q6
  have HCD := hid hcd
  clear hfr hfs zfr zfs vfr vfs hcd hre hs
  go_enter Try.func3, Try.ntmps3
  go_wp2_with fail
  (with_reducible refine qh.mono ?_)
  clear qh
  rintro e w1 ⟨rfl, k1⟩
  have HK1 := hid k1
  clear k1
  go_wp2_with fail
  (with_reducible refine (qr w1).mono ?_)
  clear qr
  rintro e w2 ⟨rfl, hw2⟩
  obtain rfl := hw2.symm
  clear hw2
  go_wp2_with fail
  (with_reducible refine (qs w1).mono ?_)
  clear qs
  rintro e w2 ⟨rfl, hw2⟩
  obtain rfl := hw2.symm
  clear hw2
  go_wp2_with fail
  (with_reducible refine (qp w1).mono ?_)
  clear qp
  rintro e w2 ⟨⟨A, n, c, rfl, -⟩, k2⟩
  have HK2 := hid (HK1.out.nil k2)
  clear k2 HK1
  go_wp2_with fail
  (with_reducible refine (q1 w2).mono ?_)
  clear q1
  rintro e w3 ⟨⟨b, rfl, hb⟩, k3⟩
  have HK3 := hid (HK2.out.nil k3)
  have HB := hid hb
  clear k3 HK2 hb
  go_wp2_with fail
  (with_reducible refine (q2 w3).mono ?_)
  clear q2
  rintro e w4 ⟨⟨b', rfl, hb'⟩, k4⟩
  have HK4 := hid (HK3.out.nil k4)
  obtain rfl := whole_same HB.out hb'
  clear k4 HK3 hb'
  go_wp2_with fail
  (with_reducible refine (q3 w4).mono ?_)
  clear q3
  rintro e w5 ⟨⟨p, q, rfl, hf⟩, k5⟩
  have HK5 := hid (HK4.out.nil k5)
  have HF := hid hf
  clear k5 HK4 hf
  go_wp2_with fail
  (with_reducible refine (q4 w5).mono ?_)
  clear q4
  rintro e w6 ⟨⟨p', q', rfl, hf1, hf2⟩, k6⟩
  have HK6 := hid (HK5.out.nil k6)
  obtain ⟨e1, e2⟩ := find_same HF.out (by rw [← HCD.out]; exact hf1) hf2
  obtain rfl := e1.symm
  obtain rfl := e2.symm
  clear k6 HK5 hf1 hf2 e1 e2
  go_wp2_with fail
  (with_reducible refine (q5 w6).mono ?_)
  clear q5
  rintro e w7 ⟨⟨t, rfl, ht⟩, k7⟩
  have HK7 := hid (HK6.out.nil k7)
  have ht' : t = ((cd == 0) && decide (0 ≤ p)) := by
    obtain ⟨p2, q2, h1, h2⟩ := ht
    obtain ⟨e1, e2⟩ := find_same2 HF.out h1
    rw [h2, e1, HCD.out]
  clear k7 HK6 ht
  obtain ⟨z0, hz0⟩ : ∃ z, z = decide (0 ≤ p) := ⟨_, rfl⟩
  rw [← hz0] at ht'
  have g0 := hz0.symm
  clear hz0
  by_cases hc : cd = 0
  · subst hc
    have ht2 : t = z0 := by rw [ht']; simp
    subst ht2
    clear ht'
    simp only [show ((0 : Nat) : Int) = 0 from rfl] at q6 ⊢
    cases t with
    | true =>
      go_wp2_with fail
      (with_reducible refine (q6 w7).mono ?_)
      clear q6
      rintro e w8 ⟨rfl, k8⟩
      have HK8 := hid (HK7.out.nil k8)
      clear k8
      go_wp2_with fail
      go_ret
      exact ⟨rfl, HK8.out⟩
    | false =>
      go_wp2_with fail
      (with_reducible refine (q6 w7).mono ?_)
      clear q6
      rintro e w8 ⟨rfl, k8⟩
      have HK8 := hid (HK7.out.nil k8)
      clear k8
      go_wp2_with fail
      go_ret
      exact ⟨rfl, HK8.out⟩
  · have e0 : ((cd : Int) == 0) = false := beq_eq_false_iff_ne.2 (by omega)
    have ht2 : t = false := by rw [ht', show (cd == 0) = false from beq_eq_false_iff_ne.2 hc]; rfl
    subst ht2
    clear ht'
    cases z0 with
    | true =>
      go_wp2_with fail
      (with_reducible refine (q6 w7).mono ?_)
      clear q6
      rintro e w8 ⟨rfl, k8⟩
      have HK8 := hid (HK7.out.nil k8)
      clear k8
      go_wp2_with fail
      go_ret
      exact ⟨rfl, HK8.out⟩
    | false =>
      go_wp2_with fail
      (with_reducible refine (q6 w7).mono ?_)
      clear q6
      rintro e w8 ⟨rfl, k8⟩
      have HK8 := hid (HK7.out.nil k8)
      clear k8
      go_wp2_with fail
      go_ret
      exact ⟨rfl, HK8.out⟩
end Go.Proofs.Ytaaikjedagnjbaa
