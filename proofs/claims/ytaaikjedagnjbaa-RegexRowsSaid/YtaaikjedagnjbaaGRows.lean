/- The statement RegexRows, walked. -/
import Derived.Test.YtaaikjedagnjbaaGRowLaw
import Derived.Test.YtaaikjedagnjbaaGRefParts
import Derived.Deep.DeepCutAuto
namespace Go.Proofs.Ytaaikjedagnjbaa
open Go Go.RowKit Go.Lib

theorem row_code {s : ByteArray} (h : codeR s = 0) : ∃ r, reR s = some r := by
  cases hr : reR s with
  | none => have := code_none hr; omega
  | some r => exact ⟨r, rfl⟩
theorem row_parse {s : ByteArray} {r : Re} (h : reR s = some r) : parseR (cps s) = some r := by
  unfold reR at h
  split at h
  · cases h
  · exact h
theorem row_whole {re s : ByteArray} {r : Re} {b : Bool} (hr : reR re = some r) (h : WholeP re s b) : b = true ↔ Mt (cps s) r 0 (cps s).length := by
  unfold WholeP at h
  rw [hr] at h
  exact h
theorem row_free {s : ByteArray} (hv : okS s) (h : ∀ (j : Nat) b, s.data.toList[j]? = some b → b.toNat ≠ 94 ∧ b.toNat ≠ 36) : Free (cps s) := fun c hc => by
  rcases Nat.lt_or_ge c 128 with h1 | h1
  · obtain ⟨b, hb, e⟩ := low_mem _ hv c hc h1
    obtain ⟨j, hj⟩ := List.mem_iff_getElem?.1 hb
    rw [← e]
    exact h j b hj
  · omega
theorem row_cut {s : ByteArray} (hv : okS s) {a b : Nat} (h : a ≤ b) (hb : b ≤ (cps s).length) {f t : Int} (hf : f = (a : Int)) (ht : t = (b : Int)) :
    cps ⟨(cutL s.data.toList f t).toArray⟩ = ((cps s).take b).drop a ∧ (⟨(cutL s.data.toList f t).toArray⟩ : ByteArray).size ≤ s.size := by
  subst hf ht
  have hb2 : b ≤ (partsL s.data.toList).length := by unfold cps cpsL at hb; rw [List.length_map] at hb; exact hb
  refine ⟨?_, ?_⟩
  · unfold cps
    show cpsL (cutL s.data.toList (a : Int) (b : Int)).toArray.toList = _
    rw [List.toList_toArray]
    exact (cps_cut hv h hb2).2
  · show (cutL s.data.toList (a : Int) (b : Int)).toArray.size ≤ s.data.toList.length
    rw [List.size_toArray]
    exact cutN_len _ _ _
set_option maxRecDepth 100000 in
set_option maxHeartbeats 12800000 in
theorem rows_any (w : World) (re : ByteArray) (hre : re.size ≤ 9223372036854775807) (s : ByteArray) (hs : s.size ≤ 9223372036854775807) :
    Calls Try.prog 7 #[.string re, .string s] w fun e w' => e = .returned (.bool true) ∧ Kp [] w w' := by
  have qh := shown_any w
  have qr := fun W => few_any W re hre
  have qs := fun W => few_any W s hs
  have zfr := first_size 40 re
  have zfs := first_size 40 s
  have vfr : okS (firstS 40 re) := first_valid 40 re
  have vfs : okS (firstS 40 s) := first_valid 40 s
  obtain ⟨fr, hfr⟩ : ∃ t, t = firstS 40 re := ⟨_, rfl⟩
  obtain ⟨fs, hfs⟩ : ∃ t, t = firstS 40 s := ⟨_, rfl⟩
  rw [← hfr] at qr zfr vfr
  rw [← hfs] at qs zfs vfs
  have HV := hid (And.intro vfr vfs)
  clear hfr hfs vfr vfs hre hs
  go_enter Try.func7, Try.ntmps7
  go_wp2_with fail
  (with_reducible refine qh.mono ?_)
  clear qh
  rintro e w1 ⟨rfl, k1⟩
  have HK1 := hid k1
  clear k1
  go_wp2_with fail
  (with_reducible refine (qr w1).mono ?_)
  rintro e w2 ⟨rfl, hw⟩
  rw [hw]
  clear hw qr
  go_wp2_with fail
  (with_reducible refine (qs w1).mono ?_)
  rintro e w2 ⟨rfl, hw⟩
  rw [hw]
  clear hw qs
  go_wp2_with fail
  go_loopg [6] (fr.size + 1) (fun gg v6 wx => wx = w1 ∧ ∃ i : Nat, v6 = .int .i64 (i : Int) ∧ i + gg = fr.size + 1 ∧ i ≤ fr.size ∧ ∀ (j : Nat) b, j < i → fr.data.toList[j]? = some b → b.toNat ≠ 94 ∧ b.toNat ≠ 36)
  case atStart => exact ⟨rfl, 0, rfl, by omega, by omega, fun j b h => by omega⟩
  case round =>
    obtain ⟨hw, i, rfl, hg, hi, hX⟩ := hrel
    have hw2 := hw.symm
    subst hw2
    have HX := hid hX
    clear hX hw
    by_cases h1 : i < fr.size
    · have b0 : decide ((i : Int) < (fr.size : Int)) = true := decide_eq_true (by omega)
      have b1 : (i : Int) < (fr.size : Int) := by omega
      have iw : IntKind.i64.wrap ((i : Int) + 1) = (i : Int) + 1 := IntWalk.i64_in _ (by omega)
      obtain ⟨y, hy⟩ : ∃ y, y = (fr[i]'h1).toNat := ⟨_, rfl⟩
      have HY := hid hy
      by_cases c1 : y = 94
      · have c2 : (((fr[i]'h1).toNat : Int) == 94) = true := by rw [← hy, c1]; rfl
        have c3 : ((fr[i]'h1).toNat : Int) = 94 := by rw [← hy, c1]; rfl
        clear hy c1
        go_wp2_with fail
        go_ret
        exact ⟨rfl, HK1.out⟩
      · have c2 : (((fr[i]'h1).toNat : Int) == 94) = false := by rw [← hy]; exact beq_eq_false_iff_ne.2 (by omega)
        have c3 : ¬ ((fr[i]'h1).toNat : Int) = 94 := by rw [← hy]; omega
        by_cases c4 : y = 36
        · have c5 : (((fr[i]'h1).toNat : Int) == 36) = true := by rw [← hy, c4]; rfl
          have c6 : ((fr[i]'h1).toNat : Int) = 36 := by rw [← hy, c4]; rfl
          clear hy c1 c4
          go_wp2_with fail
          go_ret
          exact ⟨rfl, HK1.out⟩
        · have c5 : (((fr[i]'h1).toNat : Int) == 36) = false := by rw [← hy]; exact beq_eq_false_iff_ne.2 (by omega)
          have c6 : ¬ ((fr[i]'h1).toNat : Int) = 36 := by rw [← hy]; omega
          have HN := hid (And.intro c1 c4)
          clear hy c1 c4
          go_wp2_with fail
          go_roundg (gk - 1)
          case measure => omega
          case rel =>
            refine ⟨rfl, i + 1, rfl, by omega, by omega, fun j b hj hb => ?_⟩
            rcases Nat.lt_or_ge j i with h | h
            · exact HX.out j b h hb
            · obtain rfl : j = i := by omega
              have hl : j < fr.data.toList.length := h1
              rw [List.getElem?_eq_getElem hl] at hb
              injection hb with hb
              have e : b.toNat = y := by rw [HY.out, ← hb]; rfl
              rw [e]
              exact HN.out
    · have b0 : decide ((i : Int) < (fr.size : Int)) = false := decide_eq_false (by omega)
      have b1 : ¬ (i : Int) < (fr.size : Int) := by omega
      have HF : Hid (Free (cps fr)) := hid (row_free HV.out.1 fun j b hb => HX.out j b (by
        have hl : j < fr.data.toList.length := (List.getElem?_eq_some_iff.1 hb).1
        have h2 : fr.data.toList.length = fr.size := rfl
        omega) hb)
      clear HX
      obtain ⟨cd, hcd⟩ : ∃ c, c = codeR fr := ⟨_, rfl⟩
      have qf := find_any w1 fr fs (by omega) (by omega)
      rw [← hcd] at qf
      go_wp2_with fail
      (with_reducible refine qf.mono ?_)
      clear qf
      rintro e w2 ⟨⟨p, q, rfl, hfd⟩, k2⟩
      have HK2 := hid (HK1.out.nil k2)
      have HFD := hid hfd
      clear hfd k2
      have HCD := hid hcd
      clear hcd
      by_cases hc : cd = 0
      · subst hc
        obtain ⟨r, hr⟩ := row_code HCD.out.symm
        have hne := parse_free (row_parse hr) HF.out
        have hfr : FoundR (cps fs) r p q := by
          have h := HFD.out
          unfold FindP at h
          rw [hr] at h
          exact h
        have HR := hid (And.intro hr hne)
        clear hr hne HFD
        rcases hfr with ⟨rfl, rfl, hno⟩ | ⟨a, b, rfl, rfl, hal, hm, hfi, hmx⟩
        · have HNO := hid hno
          clear hno
          have q3 := whole_any w2 fr ⟨#[]⟩ (by omega) (by decide)
          rw [← HCD.out] at q3
          simp only [show ((0 : Nat) : Int) = 0 from rfl] at q3 ⊢
          go_wp2_with fail
          (with_reducible refine q3.mono ?_)
          clear q3
          rintro e w3 ⟨⟨t, rfl, ht⟩, k3⟩
          have HK3 := hid (HK2.out.nil k3)
          clear k3
          have ht2 : t = false := by
            cases t
            · rfl
            · exact absurd ((row_whole HR.out.1 ht).1 rfl) (row_empty HR.out.2 HNO.out)
          clear ht
          subst ht2
          go_wp2_with fail
          go_ret
          exact ⟨rfl, HK3.out⟩
        · have HM := hid (And.intro hm (And.intro hfi hmx))
          have hab := mt_le hm
          have hbl := mt_top hm hal
          clear hm hfi hmx
          obtain ⟨N, hN⟩ : ∃ N, N = (partsL fs.data.toList).length := ⟨_, rfl⟩
          have hNc : (cps fs).length = N := by unfold cps cpsL; rw [List.length_map, hN]
          rw [hNc] at hal hbl
          have hN40 : N ≤ 40 := by have := length_parts_le fs.data.toList; have h2 : fs.data.toList.length = fs.size := rfl; rw [hN]; omega
          have qp := rparts_any w2 fs (by omega)
          have n1 : ¬ (a : Int) < 0 := by omega
          have n2 : ¬ (b : Int) < (a : Int) := by omega
          have n3 : ¬ (N : Int) < (b : Int) := by omega
          have n4 : decide ((a : Int) < 0) = false := decide_eq_false n1
          have n5 : decide ((b : Int) < (a : Int)) = false := decide_eq_false n2
          have n6 : decide ((N : Int) < (b : Int)) = false := decide_eq_false n3
          obtain ⟨e1, s1⟩ := row_cut HV.out.2 hab (by rw [hNc]; exact hbl) rfl rfl
          obtain ⟨e2, s2⟩ := row_cut HV.out.2 (Nat.zero_le a) (by rw [hNc]; exact hal) (f := 0) rfl rfl
          obtain ⟨e3, s3⟩ := row_cut HV.out.2 hal (by rw [hNc]; exact Nat.le_refl _) rfl rfl
          have y1 := fun W => rcut_any W fs (a : Int) (b : Int) (by omega)
          have y2 := fun W => rcut_any W fs 0 (a : Int) (by omega)
          have y3 := fun W => rcut_any W fs (a : Int) (N : Int) (by omega)
          obtain ⟨u1, hu1⟩ : ∃ u : ByteArray, u = ⟨(cutL fs.data.toList (a : Int) (b : Int)).toArray⟩ := ⟨_, rfl⟩
          obtain ⟨u2, hu2⟩ : ∃ u : ByteArray, u = ⟨(cutL fs.data.toList 0 (a : Int)).toArray⟩ := ⟨_, rfl⟩
          obtain ⟨u3, hu3⟩ : ∃ u : ByteArray, u = ⟨(cutL fs.data.toList (a : Int) (N : Int)).toArray⟩ := ⟨_, rfl⟩
          rw [← hu1] at y1 e1 s1
          rw [← hu2] at y2 e2 s2
          rw [← hu3] at y3 e3 s3
          have HE := hid (And.intro e1 (And.intro e2 (And.intro e3 hNc)))
          clear e1 e2 e3 hNc hu1 hu2 hu3
          simp only [show ((0 : Nat) : Int) = 0 from rfl]
          go_wp2_with fail
          (with_reducible refine qp.mono ?_)
          clear qp
          rintro e w3 ⟨v, rfl, hown, hnew⟩
          have HK3 := hid (HK2.out.nil hnew.kp)
          obtain ⟨A, c, rfl, -, hc1, -, -⟩ := hown.shape
          rw [← hN] at hc1 ⊢
          clear hown hnew hN
          go_wp2_with fail
          (with_reducible refine (y1 w3).mono ?_)
          clear y1
          rintro e w4 ⟨rfl, k4⟩
          have HK4 := hid (HK3.out.nil k4)
          clear k4
          have q5 := whole_any w4 fr u1 (by omega) (by omega)
          rw [← HCD.out] at q5
          simp only [show ((0 : Nat) : Int) = 0 from rfl] at q5
          go_wp2_with fail
          (with_reducible refine q5.mono ?_)
          clear q5
          rintro e w5 ⟨⟨hit, rfl, h5⟩, k5⟩
          have HK5 := hid (HK4.out.nil k5)
          clear k5
          have hh : hit = true := (row_whole HR.out.1 h5).2 (by
            rw [HE.out.1]
            exact row_found HR.out.2 HM.out.1 (by rw [HE.out.2.2.2]; exact hbl))
          clear h5
          subst hh
          go_wp2_with fail
          (with_reducible refine (y2 w5).mono ?_)
          clear y2
          rintro e w6 ⟨rfl, k6⟩
          have HK6 := hid (HK5.out.nil k6)
          clear k6
          have q7 := test_any w6 fr u2 (by omega) (by omega)
          rw [← HCD.out] at q7
          simp only [show ((0 : Nat) : Int) = 0 from rfl] at q7
          go_wp2_with fail
          (with_reducible refine q7.mono ?_)
          clear q7
          rintro e w7 ⟨⟨left, rfl, p7, q7, h7, g7⟩, k7⟩
          have HK7 := hid (HK6.out.nil k7)
          clear k7
          have hleft : a ≠ 0 → left = false := fun h0 => by
            unfold FindP at h7
            rw [HR.out.1] at h7
            have h7' : FoundR (cps u2) r p7 q7 := h7
            rw [HE.out.2.1] at h7'
            have := row_none HR.out.2 HM.out.2.1 (by rw [HE.out.2.2.2]; exact hal) h7' h0
            rw [g7, decide_eq_false this, Bool.and_false]
          clear h7 g7
          go_wp2_with fail
          (with_reducible refine (y3 w7).mono ?_)
          clear y3
          rintro e w8 ⟨rfl, k8⟩
          have HK8 := hid (HK7.out.nil k8)
          clear k8
          have q9 := whole_any w8 fr u3 (by omega) (by omega)
          rw [← HCD.out] at q9
          simp only [show ((0 : Nat) : Int) = 0 from rfl] at q9
          go_wp2_with fail
          (with_reducible refine q9.mono ?_)
          clear q9
          rintro e w9 ⟨⟨rest, rfl, h9⟩, k9⟩
          have HK9 := hid (HK8.out.nil k9)
          clear k9
          have hrest : rest = true → b = N := fun h0 => by
            have hm := (row_whole HR.out.1 h9).1 h0
            rw [HE.out.2.2.1, ← HE.out.2.2.2] at hm
            have := row_rest HR.out.2 HM.out.2.2 (by rw [HE.out.2.2.2]; exact hal) hm
            rw [HE.out.2.2.2] at this
            omega
          clear h9 HM
          obtain ⟨za, hza⟩ : ∃ z, z = ((a : Int) == 0) := ⟨_, rfl⟩
          obtain ⟨zb, hzb⟩ : ∃ z, z = ((b : Int) == (N : Int)) := ⟨_, rfl⟩
          have ga : za = false → left = false := fun h => hleft (fun h0 => by rw [h0] at hza; rw [h] at hza; cases hza)
          have gb : zb = false → rest = false := fun h => by
            cases rest
            · rfl
            · rw [hrest rfl, beq_self_eq_true] at hzb
              rw [h] at hzb; cases hzb
          have xa := hza.symm
          have xb := hzb.symm
          clear hza hzb hleft hrest
          have hbad : (za || !left) = true ∧ (!rest || zb) = true := by
            refine ⟨?_, ?_⟩
            · cases za
              · rw [ga rfl]; rfl
              · rfl
            · cases zb
              · rw [gb rfl]; rfl
              · cases rest <;> rfl
          clear ga gb
          cases za <;> cases left <;> cases rest <;> cases zb <;> first | (cases hbad.1; done) | (cases hbad.2; done) | skip
          all_goals clear hbad
          all_goals go_wp2_with fail
          all_goals
            go_ret
            exact ⟨rfl, HK9.out⟩
      · have c7 : ((cd : Int) != 0) = true := bne_iff_ne.2 (by omega)
        have c8 : ¬ (cd : Int) = 0 := by omega
        have m := may_any w2 fr (by omega)
        rw [← HCD.out] at m
        go_wp2_with fail
        (with_reducible refine m.mono ?_)
        clear m
        rintro e w3 ⟨rfl, k3⟩
        have HK3 := hid (HK2.out.nil k3)
        clear k3
        go_wp2_with fail
        go_ret
        exact ⟨rfl, HK3.out⟩
end Go.Proofs.Ytaaikjedagnjbaa
