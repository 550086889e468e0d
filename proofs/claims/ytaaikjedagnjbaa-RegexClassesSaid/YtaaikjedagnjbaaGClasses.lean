/- The statement RegexClasses, walked. -/
import Derived.Test.YtaaikjedagnjbaaGClsLaw
import Derived.Test.YtaaikjedagnjbaaGStr
namespace Go.Proofs.Ytaaikjedagnjbaa
open Go Go.RowKit Go.Lib

set_option maxRecDepth 100000 in
set_option maxHeartbeats 12800000 in
theorem classes_any (w : World) (a b c : UInt8) (s : ByteArray) (hs : s.size ≤ 9223372036854775807) :
    Calls Try.prog 6 #[.agg #[u8 a, u8 b, u8 c], .string s] w fun e w' => e = .returned (.bool true) ∧ Kp [] w w' := by
  obtain ⟨w0, hw0⟩ : ∃ w0, w0 = w.alloc (.cells #[u8 a, u8 b, u8 c] 37) := ⟨_, rfl⟩
  obtain ⟨ab, hab⟩ : ∃ g, g = w.heap.size := ⟨_, rfl⟩
  have k0 : Kp [] w w0 := by rw [hw0]; exact (Kp.refl _ _).alloc _
  have c0 : Cells w0 ab 37 [u8 a, u8 b, u8 c] := by rw [hw0, hab]; exact Cells.fresh w 37 _
  have q1 := shown_any w0
  have HW0 := hid hw0
  have HAB := hid hab
  have H0 := hid (And.intro k0 c0)
  clear hw0 hab k0 c0
  unfold u8 at *
  obtain ⟨x, hx⟩ : ∃ x, x = a.toNat := ⟨_, rfl⟩
  obtain ⟨y, hy⟩ : ∃ x, x = b.toNat := ⟨_, rfl⟩
  obtain ⟨z, hz⟩ : ∃ x, x = c.toNat := ⟨_, rfl⟩
  have hx2 : x < 256 := by rw [hx]; exact a.toNat_lt
  have hy2 : y < 256 := by rw [hy]; exact b.toNat_lt
  have hz2 : z < 256 := by rw [hz]; exact c.toNat_lt
  simp only [← hx, ← hy, ← hz] at *
  clear hx hy hz
  go_enter Try.func6, Try.ntmps6
  go_upto_region 1 with fail
  rw [← HW0.out]
  try rw [← HAB.out]
  clear HW0 HAB
  go_wp2_with fail
  (with_reducible refine q1.mono ?_)
  clear q1
  rintro e w1 ⟨rfl, k1⟩
  have c1 := H0.out.2.keep k1 (by simp)
  have y0 := c1.cell 0
  have y1 := c1.cell 1
  have y2 := c1.cell 2
  simp only [List.getElem?_cons_zero, List.getElem?_cons_succ] at y0 y1 y2
  have H1 := hid (H0.out.1.nil k1)
  clear c1 k1
  go_upto_region 5 with fail
  obtain ⟨lo, hlo⟩ : ∃ lo : Nat, 97 + (x : Int) % 26 = (lo : Int) := ⟨97 + x % 26, by omega⟩
  rw [hlo]
  obtain ⟨hi, hhi⟩ : ∃ hi : Nat, (lo : Int) + (y : Int) % 5 = (hi : Int) := ⟨lo + y % 5, by omega⟩
  rw [hhi]
  obtain ⟨d, hd⟩ : ∃ d : Nat, 97 + (z : Int) % 26 = (d : Int) := ⟨97 + z % 26, by omega⟩
  rw [hd]
  have hlo1 : 97 ≤ lo := by omega
  have hlo2 : lo ≤ 122 := by omega
  have hhi1 : lo ≤ hi := by omega
  have hd1 : 97 ≤ d := by omega
  have hd2 : d ≤ 122 := by omega
  have hhi2 : hi ≤ 126 := by omega
  clear hlo hhi hd y0 y1 y2 hx2 hy2 hz2
  by_cases hbig : 122 < hi
  · have b0 : decide ((122 : Int) < (hi : Int)) = true := decide_eq_true (by omega)
    have b1 : (122 : Int) < (hi : Int) := by omega
    go_wp2_with fail
    go_ret
    exact ⟨rfl, H1.out⟩
  · have b0 : decide ((122 : Int) < (hi : Int)) = false := decide_eq_false (by omega)
    have b1 : ¬ (122 : Int) < (hi : Int) := by omega
    obtain ⟨w2, hw2⟩ : ∃ w2, w2 = w1.alloc (.cells #[.int .i32 (lo : Int), .int .i32 45, .int .i32 (hi : Int)] 21) := ⟨_, rfl⟩
    obtain ⟨g2, hg2⟩ : ∃ g, g = w1.heap.size := ⟨_, rfl⟩
    have k2 : Kp [] w1 w2 := by rw [hw2]; exact (Kp.refl _ _).alloc _
    have c2 : Cells w2 g2 21 (runesV [lo, 45, hi]) := by rw [hw2, hg2]; exact Cells.fresh w1 21 _
    have hl3 : ∀ x ∈ [lo, 45, hi], x < 128 := by
      intro x hx
      simp only [List.mem_cons, List.not_mem_nil, or_false] at hx
      omega
    have hl1 : ∀ x ∈ [d], x < 128 := by
      intro x hx
      rw [List.mem_singleton.1 hx]
      omega
    have r2 := run_runes_text (P := Try.prog) w2 38 9 21 g2 3 3 21 [lo, 45, hi] rfl hl3 Try.underlying38 Try.underlying21 Try.underlying9 c2
    obtain ⟨it, hit⟩ : ∃ t, t = asciiS [lo, 45, hi] := ⟨_, rfl⟩
    obtain ⟨ds, hds⟩ : ∃ t, t = asciiS [d] := ⟨_, rfl⟩
    have his : it.size = 3 := by rw [hit]; rfl
    have hdz : ds.size = 1 := by rw [hds]; rfl
    have hds1 : cps ds = [d] := by rw [hds]; exact cps_asciiS hl1
    obtain ⟨u1, hu1⟩ : ∃ t : ByteArray, t = ⟨#[91]⟩ ++ it := ⟨_, rfl⟩
    obtain ⟨u2, hu2⟩ : ∃ t : ByteArray, t = u1 ++ ⟨#[93]⟩ := ⟨_, rfl⟩
    obtain ⟨v1, hv1⟩ : ∃ t : ByteArray, t = ⟨#[91, 94]⟩ ++ it := ⟨_, rfl⟩
    obtain ⟨v2, hv2⟩ : ∃ t : ByteArray, t = v1 ++ ⟨#[93]⟩ := ⟨_, rfl⟩
    have su1 : u1.size = 4 := by rw [hu1, size_cat, his]; rfl
    have su2 : u2.size = 5 := by rw [hu2, size_cat, su1]; rfl
    have sv1 : v1.size = 5 := by rw [hv1, size_cat, his]; rfl
    have sv2 : v2.size = 6 := by rw [hv2, size_cat, sv1]; rfl
    have a1 := fun W => cat_run (P := Try.prog) hu1 (by rw [his]; decide) W
    have a2 := fun W => cat_run (P := Try.prog) hu2 (by rw [su1]; decide) W
    have a3 := fun W => cat_run (P := Try.prog) hv1 (by rw [his]; decide) W
    have a4 := fun W => cat_run (P := Try.prog) hv2 (by rw [sv1]; decide) W
    have oit : okS it := by rw [hit]; exact ok_asciiS hl3
    have cu2 : cps u2 = [91, lo, 45, hi, 93] := by
      rw [hu2, cps_cat (by rw [hu1]; exact ok_cat (by rfl) oit), hu1, cps_cat (by rfl), hit, cps_asciiS hl3, show cps ⟨#[91]⟩ = [91] from cps_ascii _ (by decide), show cps ⟨#[93]⟩ = [93] from cps_ascii _ (by decide)]
      rfl
    have cv2 : cps v2 = [91, 94, lo, 45, hi, 93] := by
      rw [hv2, cps_cat (by rw [hv1]; exact ok_cat (by rfl) oit), hv1, cps_cat (by rfl), hit, cps_asciiS hl3, show cps ⟨#[91, 94]⟩ = [91, 94] from cps_ascii _ (by decide), show cps ⟨#[93]⟩ = [93] from cps_ascii _ (by decide)]
      rfl
    have ru2 : reR u2 = some (.seq .eps (.cls fun c => inR [(lo, hi)] c != false)) := (re_of (by omega) cu2).trans (parse_in hlo1 hhi1 (by omega))
    have rv2 : reR v2 = some (.seq .eps (.cls fun c => inR [(lo, hi)] c != true)) := (re_of (by omega) cv2).trans (parse_notin hlo1 hhi1 (by omega))
    have t1 := first_size 40 s
    obtain ⟨fs, hfs⟩ : ∃ t, t = firstS 40 s := ⟨_, rfl⟩
    have qf := fun W => few_any W s hs
    rw [← hfs] at qf t1
    rw [← hit] at r2
    have HX := hid (And.intro hds1 (And.intro ru2 (And.intro rv2 (And.intro (code_some ru2) (And.intro (code_some rv2) (And.intro hl1 hds))))))
    have HK2 := hid (H1.out.nil k2)
    have HW2 := hid hw2
    have HG2 := hid hg2
    clear k2 c2 hl3 hl1 hw2 hg2 hit his hds hds1 hu1 hu2 hv1 hv2 su1 sv1 oit cu2 cv2 ru2 rv2 hfs
    rw [HW2.out] at r2
    rw [HG2.out] at r2
    go_upto_region 8 with fail
    rw [← HW2.out]
    clear r2
    have r3 : (convert 38 9 (.slice (some ⟨w2.heap.size, 0, none⟩) 1 1)).run Try.prog (w2.alloc (.cells #[.int .i32 (d : Int)] 21)) = .ok (.string ds) (w2.alloc (.cells #[.int .i32 (d : Int)] 21)) := by
      rw [HX.out.2.2.2.2.2.2]
      exact run_runes_text (w2.alloc (.cells #[.int .i32 (d : Int)] 21)) 38 9 21 w2.heap.size 1 1 21 [d] rfl HX.out.2.2.2.2.2.1 Try.underlying38 Try.underlying21 Try.underlying9 (Cells.fresh w2 21 _)
    have q8 := whole_any (w2.alloc (.cells #[.int .i32 (d : Int)] 21)) u2 ds (by omega) (by omega)
    rw [HX.out.2.2.2.1] at q8
    simp only [show ((0 : Nat) : Int) = 0 from rfl] at q8
    go_wp2_with fail
    (with_reducible refine q8.mono ?_)
    clear q8 r3
    rintro e w4 ⟨⟨b1, rfl, hb1⟩, k4⟩
    have HK4 := hid ((HK2.out.alloc _).nil k4)
    have HB1 := hid (whole_cls HX.out.2.1 HX.out.1 hb1)
    clear hb1 k4
    have r5 : (convert 38 9 (.slice (some ⟨w4.heap.size, 0, none⟩) 1 1)).run Try.prog (w4.alloc (.cells #[.int .i32 (d : Int)] 21)) = .ok (.string ds) (w4.alloc (.cells #[.int .i32 (d : Int)] 21)) := by
      rw [HX.out.2.2.2.2.2.2]
      exact run_runes_text (w4.alloc (.cells #[.int .i32 (d : Int)] 21)) 38 9 21 w4.heap.size 1 1 21 [d] rfl HX.out.2.2.2.2.2.1 Try.underlying38 Try.underlying21 Try.underlying9 (Cells.fresh w4 21 _)
    have q9 := whole_any (w4.alloc (.cells #[.int .i32 (d : Int)] 21)) v2 ds (by omega) (by omega)
    rw [HX.out.2.2.2.2.1] at q9
    simp only [show ((0 : Nat) : Int) = 0 from rfl] at q9
    go_wp2_with fail
    (with_reducible refine q9.mono ?_)
    clear q9 r5
    rintro e w6 ⟨⟨b2, rfl, hb2⟩, k6⟩
    have HK6 := hid ((HK4.out.alloc _).nil k6)
    have HB2 := hid (whole_cls HX.out.2.2.1 HX.out.1 hb2)
    clear hb2 k6
    go_wp2_with fail
    (with_reducible refine (qf w6).mono ?_)
    rintro e w7 ⟨rfl, hw⟩
    rw [hw]
    clear hw
    have q10 := whole_any w6 ⟨#[40, 46, 124, 92, 110, 41, 42]⟩ fs (by decide) (by omega)
    rw [show codeR ⟨#[40, 46, 124, 92, 110, 41, 42]⟩ = 0 from code_some parse_all] at q10
    simp only [show ((0 : Nat) : Int) = 0 from rfl] at q10
    go_wp2_with fail
    (with_reducible refine q10.mono ?_)
    clear q10
    rintro e w8 ⟨⟨b3, rfl, hb3⟩, k8⟩
    have HK8 := hid (HK6.out.nil k8)
    have hb3 := whole_all hb3
    subst hb3
    clear k8
    go_wp2_with fail
    (with_reducible refine (qf w8).mono ?_)
    rintro e w9 ⟨rfl, hw⟩
    rw [hw]
    clear hw qf
    have q11 := whole_any w8 ⟨#[94, 40, 46, 124, 92, 110, 41, 42, 36]⟩ fs (by decide) (by omega)
    rw [show codeR ⟨#[94, 40, 46, 124, 92, 110, 41, 42, 36]⟩ = 0 from code_some parse_end] at q11
    simp only [show ((0 : Nat) : Int) = 0 from rfl] at q11
    go_wp2_with fail
    (with_reducible refine q11.mono ?_)
    clear q11
    rintro e w10 ⟨⟨b4, rfl, hb4⟩, k10⟩
    have HK10 := hid (HK8.out.nil k10)
    have hb4 := whole_end hb4
    subst hb4
    clear k10 a1 a2 a3 a4
    obtain ⟨i1, hi1⟩ : ∃ b, b = decide (lo ≤ d) := ⟨_, rfl⟩
    obtain ⟨i2, hi2⟩ : ∃ b, b = decide (d ≤ hi) := ⟨_, rfl⟩
    have e1 : decide (lo ≤ d) = i1 := hi1.symm
    have e2 : decide (d ≤ hi) = i2 := hi2.symm
    have e3 : decide ((lo : Int) ≤ (d : Int)) = i1 := by rw [hi1]; exact decide_eq_decide.2 (by omega)
    have e4 : decide ((d : Int) ≤ (hi : Int)) = i2 := by rw [hi2]; exact decide_eq_decide.2 (by omega)
    have f1 : b1 = (i1 && i2) := by
      rw [HB1.out, hi1, hi2]
      simp [inR]
    have f2 : b2 = !b1 := by
      rw [HB2.out, HB1.out]
      cases inR [(lo, hi)] d <;> rfl
    subst f1 f2
    clear hi1 hi2
    cases i1 <;> cases i2
    all_goals go_wp2_with fail
    all_goals
      go_ret
      exact ⟨rfl, HK10.out⟩
end Go.Proofs.Ytaaikjedagnjbaa
