/- The statement RegexParts, walked. -/
import Derived.Test.YtaaikjedagnjbaaGGroup
import Derived.Test.YtaaikjedagnjbaaGStr
import Derived.Deep.DeepCutAuto
namespace Go.Proofs.Ytaaikjedagnjbaa
open Go Go.RowKit Go.Lib

theorem code_zero {s : ByteArray} (h : codeR s = 0) : ∃ r, reR s = some r := by
  cases hr : reR s with
  | none => have := code_none hr; omega
  | some r => exact ⟨r, rfl⟩
theorem re_parse {s : ByteArray} {r : Re} (h : reR s = some r) : parseR (cps s) = some r := by
  unfold reR at h
  split at h
  · cases h
  · exact h
theorem whole_iff {re s : ByteArray} {r : Re} {b : Bool} (hr : reR re = some r) (h : WholeP re s b) : b = true ↔ Mt (cps s) r 0 (cps s).length := by
  unfold WholeP at h
  rw [hr] at h
  exact h
theorem cps_empty {s : ByteArray} : (cps s).length = 0 ↔ s.size = 0 := by
  have h2 : s.data.toList.length = s.size := rfl
  have := length_parts_le s.data.toList
  unfold cps cpsL
  rw [List.length_map]
  omega
set_option maxRecDepth 100000 in
set_option maxHeartbeats 25600000 in
theorem parts_any (w : World) (p : ByteArray) (hp : p.size ≤ 9223372036854775807) (q : ByteArray) (hq : q.size ≤ 9223372036854775807) (s : ByteArray) (hs : s.size ≤ 9223372036854775807) :
    Calls Try.prog 4 #[.string p, .string q, .string s] w fun e w' => e = .returned (.bool true) ∧ Kp [] w w' := by
  have qh := shown_any w
  have qp := fun W => few_any W p hp
  have qq := fun W => few_any W q hq
  have qs := fun W => few_any W s hs
  have zfp := first_size 40 p
  have zfq := first_size 40 q
  have zfs := first_size 40 s
  have vfp : okS (firstS 40 p) := first_valid 40 p
  have vfq : okS (firstS 40 q) := first_valid 40 q
  have vfs : okS (firstS 40 s) := first_valid 40 s
  obtain ⟨fp, hfp⟩ : ∃ t, t = firstS 40 p := ⟨_, rfl⟩
  obtain ⟨fq, hfq⟩ : ∃ t, t = firstS 40 q := ⟨_, rfl⟩
  obtain ⟨fs, hfs⟩ : ∃ t, t = firstS 40 s := ⟨_, rfl⟩
  rw [← hfp] at qp zfp vfp
  rw [← hfq] at qq zfq vfq
  rw [← hfs] at qs zfs vfs
  clear hfp hfq hfs hp hq hs
  obtain ⟨p1, hp1⟩ : ∃ t : ByteArray, t = (⟨#[40, 40]⟩ : ByteArray) ++ fp := ⟨_, rfl⟩
  obtain ⟨p2, hp2⟩ : ∃ t : ByteArray, t = p1 ++ (⟨#[41, 41]⟩ : ByteArray) := ⟨_, rfl⟩
  obtain ⟨q1, hq1⟩ : ∃ t : ByteArray, t = (⟨#[40, 40]⟩ : ByteArray) ++ fq := ⟨_, rfl⟩
  obtain ⟨q2, hq2⟩ : ∃ t : ByteArray, t = q1 ++ (⟨#[41, 41]⟩ : ByteArray) := ⟨_, rfl⟩
  obtain ⟨t1, ht1⟩ : ∃ t : ByteArray, t = (⟨#[40]⟩ : ByteArray) ++ fp := ⟨_, rfl⟩
  obtain ⟨g2, hg2⟩ : ∃ t : ByteArray, t = t1 ++ (⟨#[41, 124, 40]⟩ : ByteArray) := ⟨_, rfl⟩
  obtain ⟨g3, hg3⟩ : ∃ t : ByteArray, t = g2 ++ fq := ⟨_, rfl⟩
  obtain ⟨g4, hg4⟩ : ∃ t : ByteArray, t = g3 ++ (⟨#[41]⟩ : ByteArray) := ⟨_, rfl⟩
  obtain ⟨h2, hh2⟩ : ∃ t : ByteArray, t = t1 ++ (⟨#[41]⟩ : ByteArray) := ⟨_, rfl⟩
  obtain ⟨o2, ho2⟩ : ∃ t : ByteArray, t = t1 ++ (⟨#[41, 63]⟩ : ByteArray) := ⟨_, rfl⟩
  obtain ⟨s2, hs2⟩ : ∃ t : ByteArray, t = t1 ++ (⟨#[41, 42]⟩ : ByteArray) := ⟨_, rfl⟩
  obtain ⟨l2, hl2⟩ : ∃ t : ByteArray, t = t1 ++ (⟨#[41, 43]⟩ : ByteArray) := ⟨_, rfl⟩
  obtain ⟨b2, hb2⟩ : ∃ t : ByteArray, t = t1 ++ (⟨#[41, 40]⟩ : ByteArray) := ⟨_, rfl⟩
  obtain ⟨b3, hb3⟩ : ∃ t : ByteArray, t = b2 ++ fp := ⟨_, rfl⟩
  obtain ⟨b4, hb4⟩ : ∃ t : ByteArray, t = b3 ++ (⟨#[41, 42]⟩ : ByteArray) := ⟨_, rfl⟩
  have zp1 : p1.size ≤ 42 := by rw [hp1, size_cat]; exact Nat.add_le_add (Nat.le_refl 2 : (⟨#[40, 40]⟩ : ByteArray).size ≤ 2) zfp
  have ap1 := fun W => cat_run (P := Try.prog) hp1 (Nat.le_trans (Nat.add_le_add (Nat.le_refl 2 : (⟨#[40, 40]⟩ : ByteArray).size ≤ 2) zfp) (by decide)) W
  have zp2 : p2.size ≤ 44 := by rw [hp2, size_cat]; exact Nat.add_le_add zp1 (Nat.le_refl 2 : (⟨#[41, 41]⟩ : ByteArray).size ≤ 2)
  have ap2 := fun W => cat_run (P := Try.prog) hp2 (Nat.le_trans (Nat.add_le_add zp1 (Nat.le_refl 2 : (⟨#[41, 41]⟩ : ByteArray).size ≤ 2)) (by decide)) W
  have zq1 : q1.size ≤ 42 := by rw [hq1, size_cat]; exact Nat.add_le_add (Nat.le_refl 2 : (⟨#[40, 40]⟩ : ByteArray).size ≤ 2) zfq
  have aq1 := fun W => cat_run (P := Try.prog) hq1 (Nat.le_trans (Nat.add_le_add (Nat.le_refl 2 : (⟨#[40, 40]⟩ : ByteArray).size ≤ 2) zfq) (by decide)) W
  have zq2 : q2.size ≤ 44 := by rw [hq2, size_cat]; exact Nat.add_le_add zq1 (Nat.le_refl 2 : (⟨#[41, 41]⟩ : ByteArray).size ≤ 2)
  have aq2 := fun W => cat_run (P := Try.prog) hq2 (Nat.le_trans (Nat.add_le_add zq1 (Nat.le_refl 2 : (⟨#[41, 41]⟩ : ByteArray).size ≤ 2)) (by decide)) W
  have zt1 : t1.size ≤ 41 := by rw [ht1, size_cat]; exact Nat.add_le_add (Nat.le_refl 1 : (⟨#[40]⟩ : ByteArray).size ≤ 1) zfp
  have at1 := fun W => cat_run (P := Try.prog) ht1 (Nat.le_trans (Nat.add_le_add (Nat.le_refl 1 : (⟨#[40]⟩ : ByteArray).size ≤ 1) zfp) (by decide)) W
  have zg2 : g2.size ≤ 44 := by rw [hg2, size_cat]; exact Nat.add_le_add zt1 (Nat.le_refl 3 : (⟨#[41, 124, 40]⟩ : ByteArray).size ≤ 3)
  have ag2 := fun W => cat_run (P := Try.prog) hg2 (Nat.le_trans (Nat.add_le_add zt1 (Nat.le_refl 3 : (⟨#[41, 124, 40]⟩ : ByteArray).size ≤ 3)) (by decide)) W
  have zg3 : g3.size ≤ 84 := by rw [hg3, size_cat]; exact Nat.add_le_add zg2 zfq
  have ag3 := fun W => cat_run (P := Try.prog) hg3 (Nat.le_trans (Nat.add_le_add zg2 zfq) (by decide)) W
  have zg4 : g4.size ≤ 85 := by rw [hg4, size_cat]; exact Nat.add_le_add zg3 (Nat.le_refl 1 : (⟨#[41]⟩ : ByteArray).size ≤ 1)
  have ag4 := fun W => cat_run (P := Try.prog) hg4 (Nat.le_trans (Nat.add_le_add zg3 (Nat.le_refl 1 : (⟨#[41]⟩ : ByteArray).size ≤ 1)) (by decide)) W
  have zh2 : h2.size ≤ 42 := by rw [hh2, size_cat]; exact Nat.add_le_add zt1 (Nat.le_refl 1 : (⟨#[41]⟩ : ByteArray).size ≤ 1)
  have ah2 := fun W => cat_run (P := Try.prog) hh2 (Nat.le_trans (Nat.add_le_add zt1 (Nat.le_refl 1 : (⟨#[41]⟩ : ByteArray).size ≤ 1)) (by decide)) W
  have zo2 : o2.size ≤ 43 := by rw [ho2, size_cat]; exact Nat.add_le_add zt1 (Nat.le_refl 2 : (⟨#[41, 63]⟩ : ByteArray).size ≤ 2)
  have ao2 := fun W => cat_run (P := Try.prog) ho2 (Nat.le_trans (Nat.add_le_add zt1 (Nat.le_refl 2 : (⟨#[41, 63]⟩ : ByteArray).size ≤ 2)) (by decide)) W
  have zs2 : s2.size ≤ 43 := by rw [hs2, size_cat]; exact Nat.add_le_add zt1 (Nat.le_refl 2 : (⟨#[41, 42]⟩ : ByteArray).size ≤ 2)
  have as2 := fun W => cat_run (P := Try.prog) hs2 (Nat.le_trans (Nat.add_le_add zt1 (Nat.le_refl 2 : (⟨#[41, 42]⟩ : ByteArray).size ≤ 2)) (by decide)) W
  have zl2 : l2.size ≤ 43 := by rw [hl2, size_cat]; exact Nat.add_le_add zt1 (Nat.le_refl 2 : (⟨#[41, 43]⟩ : ByteArray).size ≤ 2)
  have al2 := fun W => cat_run (P := Try.prog) hl2 (Nat.le_trans (Nat.add_le_add zt1 (Nat.le_refl 2 : (⟨#[41, 43]⟩ : ByteArray).size ≤ 2)) (by decide)) W
  have zb2 : b2.size ≤ 43 := by rw [hb2, size_cat]; exact Nat.add_le_add zt1 (Nat.le_refl 2 : (⟨#[41, 40]⟩ : ByteArray).size ≤ 2)
  have ab2 := fun W => cat_run (P := Try.prog) hb2 (Nat.le_trans (Nat.add_le_add zt1 (Nat.le_refl 2 : (⟨#[41, 40]⟩ : ByteArray).size ≤ 2)) (by decide)) W
  have zb3 : b3.size ≤ 83 := by rw [hb3, size_cat]; exact Nat.add_le_add zb2 zfp
  have ab3 := fun W => cat_run (P := Try.prog) hb3 (Nat.le_trans (Nat.add_le_add zb2 zfp) (by decide)) W
  have zb4 : b4.size ≤ 85 := by rw [hb4, size_cat]; exact Nat.add_le_add zb3 (Nat.le_refl 2 : (⟨#[41, 42]⟩ : ByteArray).size ≤ 2)
  have ab4 := fun W => cat_run (P := Try.prog) hb4 (Nat.le_trans (Nat.add_le_add zb3 (Nat.le_refl 2 : (⟨#[41, 42]⟩ : ByteArray).size ≤ 2)) (by decide)) W
  have vp1 : okS p1 := by rw [hp1]; exact ok_cat (by rfl) vfp
  have cp1 : cps p1 = [40, 40] ++ cps fp := by rw [hp1, cps_cat (by rfl), (show cps (⟨#[40, 40]⟩ : ByteArray) = [40, 40] from cps_ascii _ (by decide))]
  have vp2 : okS p2 := by rw [hp2]; exact ok_cat vp1 (by rfl)
  have cp2 : cps p2 = [40, 40] ++ cps fp ++ [41, 41] := by rw [hp2, cps_cat vp1, cp1, (show cps (⟨#[41, 41]⟩ : ByteArray) = [41, 41] from cps_ascii _ (by decide))]
  have vq1 : okS q1 := by rw [hq1]; exact ok_cat (by rfl) vfq
  have cq1 : cps q1 = [40, 40] ++ cps fq := by rw [hq1, cps_cat (by rfl), (show cps (⟨#[40, 40]⟩ : ByteArray) = [40, 40] from cps_ascii _ (by decide))]
  have vq2 : okS q2 := by rw [hq2]; exact ok_cat vq1 (by rfl)
  have cq2 : cps q2 = [40, 40] ++ cps fq ++ [41, 41] := by rw [hq2, cps_cat vq1, cq1, (show cps (⟨#[41, 41]⟩ : ByteArray) = [41, 41] from cps_ascii _ (by decide))]
  have vt1 : okS t1 := by rw [ht1]; exact ok_cat (by rfl) vfp
  have ct1 : cps t1 = [40] ++ cps fp := by rw [ht1, cps_cat (by rfl), (show cps (⟨#[40]⟩ : ByteArray) = [40] from cps_ascii _ (by decide))]
  have vg2 : okS g2 := by rw [hg2]; exact ok_cat vt1 (by rfl)
  have cg2 : cps g2 = [40] ++ cps fp ++ [41, 124, 40] := by rw [hg2, cps_cat vt1, ct1, (show cps (⟨#[41, 124, 40]⟩ : ByteArray) = [41, 124, 40] from cps_ascii _ (by decide))]
  have vg3 : okS g3 := by rw [hg3]; exact ok_cat vg2 vfq
  have cg3 : cps g3 = [40] ++ cps fp ++ [41, 124, 40] ++ cps fq := by rw [hg3, cps_cat vg2, cg2]
  have vg4 : okS g4 := by rw [hg4]; exact ok_cat vg3 (by rfl)
  have cg4 : cps g4 = [40] ++ cps fp ++ [41, 124, 40] ++ cps fq ++ [41] := by rw [hg4, cps_cat vg3, cg3, (show cps (⟨#[41]⟩ : ByteArray) = [41] from cps_ascii _ (by decide))]
  have vh2 : okS h2 := by rw [hh2]; exact ok_cat vt1 (by rfl)
  have ch2 : cps h2 = [40] ++ cps fp ++ [41] := by rw [hh2, cps_cat vt1, ct1, (show cps (⟨#[41]⟩ : ByteArray) = [41] from cps_ascii _ (by decide))]
  have vo2 : okS o2 := by rw [ho2]; exact ok_cat vt1 (by rfl)
  have co2 : cps o2 = [40] ++ cps fp ++ [41, 63] := by rw [ho2, cps_cat vt1, ct1, (show cps (⟨#[41, 63]⟩ : ByteArray) = [41, 63] from cps_ascii _ (by decide))]
  have vs2 : okS s2 := by rw [hs2]; exact ok_cat vt1 (by rfl)
  have cs2 : cps s2 = [40] ++ cps fp ++ [41, 42] := by rw [hs2, cps_cat vt1, ct1, (show cps (⟨#[41, 42]⟩ : ByteArray) = [41, 42] from cps_ascii _ (by decide))]
  have vl2 : okS l2 := by rw [hl2]; exact ok_cat vt1 (by rfl)
  have cl2 : cps l2 = [40] ++ cps fp ++ [41, 43] := by rw [hl2, cps_cat vt1, ct1, (show cps (⟨#[41, 43]⟩ : ByteArray) = [41, 43] from cps_ascii _ (by decide))]
  have vb2 : okS b2 := by rw [hb2]; exact ok_cat vt1 (by rfl)
  have cb2 : cps b2 = [40] ++ cps fp ++ [41, 40] := by rw [hb2, cps_cat vt1, ct1, (show cps (⟨#[41, 40]⟩ : ByteArray) = [41, 40] from cps_ascii _ (by decide))]
  have vb3 : okS b3 := by rw [hb3]; exact ok_cat vb2 vfp
  have cb3 : cps b3 = [40] ++ cps fp ++ [41, 40] ++ cps fp := by rw [hb3, cps_cat vb2, cb2]
  have vb4 : okS b4 := by rw [hb4]; exact ok_cat vb3 (by rfl)
  have cb4 : cps b4 = [40] ++ cps fp ++ [41, 40] ++ cps fp ++ [41, 42] := by rw [hb4, cps_cat vb3, cb3, (show cps (⟨#[41, 42]⟩ : ByteArray) = [41, 42] from cps_ascii _ (by decide))]
  have HV := hid (And.intro cp2 (And.intro cq2 (And.intro cg4 (And.intro ch2 (And.intro co2 (And.intro cs2 (And.intro cl2 cb4)))))))
  clear vfp vfq vfs hp1 vp1 cp1 hp2 vp2 cp2 hq1 vq1 cq1 hq2 vq2 cq2 ht1 vt1 ct1 hg2 vg2 cg2 hg3 vg3 cg3 hg4 vg4 cg4 hh2 vh2 ch2 ho2 vo2 co2 hs2 vs2 cs2 hl2 vl2 cl2 hb2 vb2 cb2 hb3 vb3 cb3 hb4 vb4 cb4
  obtain ⟨c1, hc1⟩ : ∃ c, c = codeR fp := ⟨_, rfl⟩
  obtain ⟨c2, hc2⟩ : ∃ c, c = codeR fq := ⟨_, rfl⟩
  obtain ⟨c3, hc3⟩ : ∃ c, c = codeR p2 := ⟨_, rfl⟩
  obtain ⟨c4, hc4⟩ : ∃ c, c = codeR q2 := ⟨_, rfl⟩
  have m1 := fun W => may_any W fp (by omega)
  have m2 := fun W => may_any W fq (by omega)
  have m3 := fun W => may_any W p2 (by omega)
  have m4 := fun W => may_any W q2 (by omega)
  rw [← hc1] at m1
  rw [← hc2] at m2
  rw [← hc3] at m3
  rw [← hc4] at m4
  have HC := hid (And.intro hc1 (And.intro hc2 (And.intro hc3 hc4)))
  clear hc1 hc2 hc3 hc4
  obtain ⟨x1, hx1⟩ : ∃ b, b = ((c1 : Int) != 0) := ⟨_, rfl⟩
  obtain ⟨x2, hx2⟩ : ∃ b, b = ((c2 : Int) != 0) := ⟨_, rfl⟩
  obtain ⟨x3, hx3⟩ : ∃ b, b = ((c3 : Int) != 0) := ⟨_, rfl⟩
  obtain ⟨x4, hx4⟩ : ∃ b, b = ((c4 : Int) != 0) := ⟨_, rfl⟩
  have y1 := hx1.symm
  have y2 := hx2.symm
  have y3 := hx3.symm
  have y4 := hx4.symm
  have HX := hid (And.intro hx1 (And.intro hx2 (And.intro hx3 hx4)))
  clear hx1 hx2 hx3 hx4
  go_enter Try.func4, Try.ntmps4
  go_wp2_with fail
  (with_reducible refine qh.mono ?_)
  clear qh
  rintro e w1 ⟨rfl, k1⟩
  have HK1 := hid k1
  clear k1
  go_wp2_with fail
  (with_reducible refine (qp w1).mono ?_)
  rintro e w2 ⟨rfl, hw⟩
  rw [hw]
  clear hw qp
  go_wp2_with fail
  (with_reducible refine (qq w1).mono ?_)
  rintro e w2 ⟨rfl, hw⟩
  rw [hw]
  clear hw qq
  go_wp2_with fail
  (with_reducible refine (qs w1).mono ?_)
  rintro e w2 ⟨rfl, hw⟩
  rw [hw]
  clear hw qs
  go_upto_region 5 with fail
  go_cut [53] (fun v wx => v = .bool (x1 || (x2 || (x3 || x4))) ∧ Kp [] w1 wx)
  case first =>
    go_wp2_with fail
    (with_reducible refine (m1 w1).mono ?_)
    rintro e w2 ⟨rfl, k2⟩
    have H2 := hid k2
    clear k2
    cases x1 with
    | true =>
      go_wp2_with fail
      go_meet
      exact ⟨rfl, H2.out⟩
    | false =>
      go_wp2_with fail
      (with_reducible refine (m2 w2).mono ?_)
      rintro e w3 ⟨rfl, k3⟩
      have H3 := hid (H2.out.nil k3)
      clear k3
      cases x2 with
      | true =>
        go_wp2_with fail
        go_meet
        exact ⟨rfl, H3.out⟩
      | false =>
        go_wp2_with fail
        (with_reducible refine (m3 w3).mono ?_)
        rintro e w4 ⟨rfl, k4⟩
        have H4 := hid (H3.out.nil k4)
        clear k4
        cases x3 with
        | true =>
          go_wp2_with fail
          go_meet
          exact ⟨rfl, H4.out⟩
        | false =>
          go_wp2_with fail
          (with_reducible refine (m4 w4).mono ?_)
          rintro e w5 ⟨rfl, k5⟩
          have H5 := hid (H4.out.nil k5)
          clear k5
          cases x4 with
          | true =>
            go_wp2_with fail
            go_meet
            exact ⟨rfl, H5.out⟩
          | false =>
            go_wp2_with fail
            go_meet
            exact ⟨rfl, H5.out⟩
  case rest =>
    obtain ⟨rfl, kc⟩ := hcut
    have HKC := hid (HK1.out.nil kc)
    clear kc m1 m2 m3 m4 y1 y2 y3 y4
    obtain ⟨bad, hbad⟩ : ∃ b, b = (x1 || (x2 || (x3 || x4))) := ⟨_, rfl⟩
    rw [← hbad]
    have HBAD := hid hbad
    clear hbad
    cases bad with
    | true =>
      go_wp2_with fail
      go_ret
      exact ⟨rfl, HKC.out⟩
    | false =>
      have hz : c1 = 0 ∧ c2 = 0 ∧ c3 = 0 ∧ c4 = 0 := by
        have h0 := HBAD.out
        obtain ⟨g1, g2, g3, g4⟩ := HX.out
        cases x1
        · cases x2
          · cases x3
            · cases x4
              · simp at g1 g2 g3 g4
                omega
              · cases h0
            · cases h0
          · cases h0
        · cases h0
      obtain ⟨a, ha⟩ := code_zero (HC.out.1.symm.trans hz.1)
      obtain ⟨b, hb⟩ := code_zero (HC.out.2.1.symm.trans hz.2.1)
      obtain ⟨xa, hxa⟩ := code_zero (HC.out.2.2.1.symm.trans hz.2.2.1)
      obtain ⟨xb, hxb⟩ := code_zero (HC.out.2.2.2.symm.trans hz.2.2.2)
      obtain ⟨cp2, cq2, cg4, ch2, co2, cs2, cl2, cb4⟩ := HV.out
      have hP := deep_ok (re_parse ha) (x := xa) (by rw [← cp2]; exact re_parse hxa)
      have hQ := deep_ok (re_parse hb) (x := xb) (by rw [← cq2]; exact re_parse hxb)
      have rg4 : reR g4 = some _ := (re_of (by omega) cg4).trans (parse_bar hP hQ)
      have rh2 : reR h2 = some _ := (re_of (by omega) ch2).trans (parse_group hP)
      have ro2 : reR o2 = some _ := (re_of (by omega) co2).trans (parse_opt hP)
      have rs2 : reR s2 = some _ := (re_of (by omega) cs2).trans (parse_star hP)
      have rl2 : reR l2 = some _ := (re_of (by omega) cl2).trans (parse_plus hP)
      have rb4 : reR b4 = some _ := (re_of (by omega) cb4).trans (parse_both hP)
      have HR := hid (And.intro (code_some ha) (And.intro (code_some hb) (And.intro (code_some rg4) (And.intro (code_some rh2) (And.intro (code_some ro2) (And.intro (code_some rs2) (And.intro (code_some rl2) (code_some rb4))))))))
      have HRE := hid (And.intro ha (And.intro hb (And.intro rg4 (And.intro rh2 (And.intro ro2 (And.intro rs2 (And.intro rl2 rb4)))))))
      clear hz ha hb hxa hxb cp2 cq2 cg4 ch2 co2 cs2 cl2 cb4 hP hQ rg4 rh2 ro2 rs2 rl2 rb4
      have q0 := whole_any wc fp fs (by omega) (by omega)
      rw [HR.out.1] at q0
      simp only [show ((0 : Nat) : Int) = 0 from rfl] at q0
      go_wp2_with fail
      (with_reducible refine q0.mono ?_)
      clear q0
      rintro e w10 ⟨⟨wa, rfl, e0⟩, k0⟩
      have HK0 := hid (HKC.out.nil k0)
      have HE0 := hid e0
      clear e0 k0
      have q1 := whole_any w10 fq fs (by omega) (by omega)
      rw [HR.out.2.1] at q1
      simp only [show ((0 : Nat) : Int) = 0 from rfl] at q1
      go_wp2_with fail
      (with_reducible refine q1.mono ?_)
      clear q1
      rintro e w11 ⟨⟨wb, rfl, e1⟩, k1⟩
      have HK1 := hid (HK0.out.nil k1)
      have HE1 := hid e1
      clear e1 k1
      have q2 := whole_any w11 g4 fs (by omega) (by omega)
      rw [HR.out.2.2.1] at q2
      simp only [show ((0 : Nat) : Int) = 0 from rfl] at q2
      go_wp2_with fail
      (with_reducible refine q2.mono ?_)
      clear q2
      rintro e w12 ⟨⟨bar, rfl, e2⟩, k2⟩
      have HK2 := hid (HK1.out.nil k2)
      have HE2 := hid e2
      clear e2 k2
      have q3 := whole_any w12 h2 fs (by omega) (by omega)
      rw [HR.out.2.2.2.1] at q3
      simp only [show ((0 : Nat) : Int) = 0 from rfl] at q3
      go_wp2_with fail
      (with_reducible refine q3.mono ?_)
      clear q3
      rintro e w13 ⟨⟨in_, rfl, e3⟩, k3⟩
      have HK3 := hid (HK2.out.nil k3)
      have HE3 := hid e3
      clear e3 k3
      have q4 := whole_any w13 o2 fs (by omega) (by omega)
      rw [HR.out.2.2.2.2.1] at q4
      simp only [show ((0 : Nat) : Int) = 0 from rfl] at q4
      go_wp2_with fail
      (with_reducible refine q4.mono ?_)
      clear q4
      rintro e w14 ⟨⟨opt, rfl, e4⟩, k4⟩
      have HK4 := hid (HK3.out.nil k4)
      have HE4 := hid e4
      clear e4 k4
      have q5 := whole_any w14 s2 fs (by omega) (by omega)
      rw [HR.out.2.2.2.2.2.1] at q5
      simp only [show ((0 : Nat) : Int) = 0 from rfl] at q5
      go_wp2_with fail
      (with_reducible refine q5.mono ?_)
      clear q5
      rintro e w15 ⟨⟨star, rfl, e5⟩, k5⟩
      have HK5 := hid (HK4.out.nil k5)
      have HE5 := hid e5
      clear e5 k5
      have q6 := whole_any w15 l2 fs (by omega) (by omega)
      rw [HR.out.2.2.2.2.2.2.1] at q6
      simp only [show ((0 : Nat) : Int) = 0 from rfl] at q6
      go_wp2_with fail
      (with_reducible refine q6.mono ?_)
      clear q6
      rintro e w16 ⟨⟨plus, rfl, e6⟩, k6⟩
      have HK6 := hid (HK5.out.nil k6)
      have HE6 := hid e6
      clear e6 k6
      have q7 := whole_any w16 b4 fs (by omega) (by omega)
      rw [HR.out.2.2.2.2.2.2.2] at q7
      simp only [show ((0 : Nat) : Int) = 0 from rfl] at q7
      go_wp2_with fail
      (with_reducible refine q7.mono ?_)
      clear q7
      rintro e w17 ⟨⟨both, rfl, e7⟩, k7⟩
      have HK7 := hid (HK6.out.nil k7)
      have HE7 := hid e7
      clear e7 k7
      obtain ⟨g1, g2, g3, g4', g5, g6⟩ := parts_law (whole_iff HRE.out.1 HE0.out) (whole_iff HRE.out.2.1 HE1.out) (whole_iff HRE.out.2.2.1 HE2.out) (whole_iff HRE.out.2.2.2.1 HE3.out) (whole_iff HRE.out.2.2.2.2.1 HE4.out) (whole_iff HRE.out.2.2.2.2.2.1 HE5.out) (whole_iff HRE.out.2.2.2.2.2.2.1 HE6.out) (whole_iff HRE.out.2.2.2.2.2.2.2 HE7.out)
      obtain ⟨z, hz⟩ : ∃ z, z = decide ((cps fs).length = 0) := ⟨_, rfl⟩
      rw [← hz] at g3 g4'
      rw [← g5] at *
      subst g1 g2 g3 g4'
      have HZ := hid hz
      clear hz HE0 HE1 HE2 HE3 HE4 HE5 HE6 HE7 g5
      have es : fs.toList.isEmpty = z := by
        rw [HZ.out, Bool.eq_iff_iff, List.isEmpty_iff, decide_eq_true_eq, cps_empty, ByteArray.toList_eq]
        have h2 : fs.data.toList.length = fs.size := rfl
        constructor
        · intro h0; rw [h0] at h2; exact h2.symm
        · intro h0; exact List.eq_nil_of_length_eq_zero (by omega)
      cases in_ <;> cases plus <;> first | (cases g6; done) | skip
      all_goals clear g6
      all_goals (cases wb <;> cases z)
      all_goals go_wp2_with fail
      all_goals
        go_ret
        exact ⟨rfl, HK7.out⟩
end Go.Proofs.Ytaaikjedagnjbaa
