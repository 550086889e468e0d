/- The statement RegexWords, walked. -/
import Derived.Test.YtaaikjedagnjbaaGWord
import Derived.Deep.DeepCutAuto
namespace Go.Proofs.Ytaaikjedagnjbaa
open Go Go.RowKit Go.Lib

/-- So many dots. -/
def dotS (k : Nat) : ByteArray := asciiS (List.replicate k 46)
theorem dot_lt (k : Nat) : ∀ c ∈ List.replicate k 46, c < 128 := fun c hc => by rw [List.eq_of_mem_replicate hc]; decide
theorem dot_succ (k : Nat) : dotS (k + 1) = dotS k ++ ⟨#[46]⟩ := by
  refine ByteArray.ext (Array.toList_inj.1 ?_)
  rw [data_cat]
  simp only [dotS, asciiS, List.replicate_succ', List.map_append, List.toList_toArray]
  rfl
theorem dot_size (k : Nat) : (dotS k).size = k := by simp [dotS, size_asciiS]
theorem dot_re {k : Nat} (h : k ≤ 100) : reR (dotS k) = some (lit dotF .eps (List.replicate k 46)) :=
  (re_of (s := dotS k) (by rw [dot_size]; omega) (cps_asciiS (dot_lt k))).trans (parse_lit dotF (fun c hc => by rw [List.eq_of_mem_replicate hc]; exact own_dot))
theorem wholeIs {re s : ByteArray} {r : Re} {b : Bool} (hr : reR re = some r) (h : WholeP re s b) : b = true ↔ Mt (cps s) r 0 (cps s).length := by
  unfold WholeP at h
  rw [hr] at h
  exact h
set_option maxRecDepth 100000 in
set_option maxHeartbeats 12800000 in
theorem words_any (w : World) (a : ByteArray) (ha : a.size ≤ 9223372036854775807) (b : ByteArray) (hb : b.size ≤ 9223372036854775807) (s : ByteArray) (hs : s.size ≤ 9223372036854775807) :
    Calls Try.prog 8 #[.string a, .string b, .string s] w fun e w' => e = .returned (.bool true) ∧ Kp [] w w' := by
  have qh := shown_any w
  have qa := fun W => word_any W a ha
  have qb := fun W => word_any W b hb
  have qs := fun W => few_any W s hs
  have zfs := first_size 40 s
  have vfs : okS (firstS 40 s) := first_valid 40 s
  obtain ⟨fs, hfs⟩ : ∃ t, t = firstS 40 s := ⟨_, rfl⟩
  rw [← hfs] at qs zfs vfs
  clear hfs ha hb hs
  have HVF := hid vfs
  clear vfs
  go_enter Try.func8, Try.ntmps8
  go_wp2_with fail
  (with_reducible refine qh.mono ?_)
  clear qh
  rintro e w1 ⟨rfl, k1⟩
  have HK1 := hid k1
  clear k1
  go_wp2_with fail
  (with_reducible refine (qa w1).mono ?_)
  rintro e w2 ⟨⟨X, rfl, hX1, hX2⟩, hw⟩
  rw [hw]
  clear hw qa
  obtain ⟨x, hx⟩ : ∃ x : ByteArray, x = ⟨X.toArray⟩ := ⟨_, rfl⟩
  rw [← hx]
  have HX := hid (And.intro hx hX2)
  have zx : x.size ≤ 12 := by rw [hx]; simpa [ByteArray.size] using hX1
  clear hX1 hX2 hx
  go_wp2_with fail
  (with_reducible refine (qb w1).mono ?_)
  rintro e w2 ⟨⟨Y, rfl, hY1, hY2⟩, hw⟩
  rw [hw]
  clear hw qb
  obtain ⟨y, hy⟩ : ∃ x : ByteArray, x = ⟨Y.toArray⟩ := ⟨_, rfl⟩
  rw [← hy]
  have HY := hid (And.intro hy hY2)
  have zy : y.size ≤ 12 := by rw [hy]; simpa [ByteArray.size] using hY1
  clear hY1 hY2 hy
  go_wp2_with fail
  (with_reducible refine (qs w1).mono ?_)
  rintro e w2 ⟨rfl, hw⟩
  rw [hw]
  clear hw qs
  obtain ⟨u1, hu1⟩ : ∃ t : ByteArray, t = x ++ ⟨#[124]⟩ := ⟨_, rfl⟩
  obtain ⟨u2, hu2⟩ : ∃ t : ByteArray, t = u1 ++ y := ⟨_, rfl⟩
  have zu1 : u1.size ≤ 13 := by rw [hu1, size_cat]; exact Nat.add_le_add zx (Nat.le_refl 1)
  have zu2 : u2.size ≤ 25 := by rw [hu2, size_cat]; exact Nat.add_le_add zu1 zy
  have a1 := fun W => cat_run (P := Try.prog) hu1 (Nat.le_trans (Nat.add_le_add zx (Nat.le_refl 1)) (by decide)) W
  have a2 := fun W => cat_run (P := Try.prog) hu2 (by omega) W
  have bX : ∀ b ∈ X, b.toNat < 128 := fun b hb => by have := (HX.out.2 b hb).2; omega
  have bY : ∀ b ∈ Y, b.toNat < 128 := fun b hb => by have := (HY.out.2 b hb).2; omega
  have cx : cps x = X.map UInt8.toNat := by rw [HX.out.1]; show cpsL X.toArray.toList = _; rw [List.toList_toArray]; exact cps_ascii X bX
  have cy : cps y = Y.map UInt8.toNat := by rw [HY.out.1]; show cpsL Y.toArray.toList = _; rw [List.toList_toArray]; exact cps_ascii Y bY
  have vx : okS x := by rw [HX.out.1]; show validD X.toArray.toList = true; rw [List.toList_toArray]; exact valid_ascii X bX
  have vu1 : okS u1 := by rw [hu1]; exact ok_cat vx (by rfl)
  have lX : ∀ c ∈ X.map UInt8.toNat, Own1 eqF c := fun c hc => by obtain ⟨b, hb, rfl⟩ := List.mem_map.1 hc; exact own_letter (HX.out.2 b hb).1 (HX.out.2 b hb).2
  have lY : ∀ c ∈ Y.map UInt8.toNat, Own1 eqF c := fun c hc => by obtain ⟨b, hb, rfl⟩ := List.mem_map.1 hc; exact own_letter (HY.out.2 b hb).1 (HY.out.2 b hb).2
  have cu : cps u2 = X.map UInt8.toNat ++ 124 :: Y.map UInt8.toNat := by
    rw [hu2, cps_cat vu1, hu1, cps_cat vx, cx, cy, show cps ⟨#[124]⟩ = [124] from cps_ascii _ (by decide), List.append_assoc]
    rfl
  have ru : reR u2 = some _ := (re_of (by omega) cu).trans (parse_or eqF lX lY)
  have q5 := whole_any w1 u2 fs (by omega) (by omega)
  rw [code_some ru] at q5
  simp only [show ((0 : Nat) : Int) = 0 from rfl] at q5
  have asc : ∀ (Z : List UInt8) (z : ByteArray), z = ⟨Z.toArray⟩ → (∀ b ∈ Z, b.toNat < 128) → (cps fs = Z.map UInt8.toNat ↔ fs = z) := fun Z z hz hZ => by
    have e : z = asciiS (Z.map UInt8.toNat) := by
      rw [hz]
      unfold asciiS
      rw [List.map_map]
      congr 2
      conv => lhs; rw [← List.map_id Z]
      exact List.map_congr_left fun c _ => by simp
    rw [e]
    exact cps_inj_low HVF.out (fun c hc => by obtain ⟨b, hb, rfl⟩ := List.mem_map.1 hc; exact hZ b hb)
  have HRU := hid (And.intro ru (And.intro (asc X x HX.out.1 bX) (asc Y y HY.out.1 bY)))
  clear hu1 hu2 bX bY cx cy vx vu1 lX lY cu ru asc
  go_wp2_with fail
  (with_reducible refine q5.mono ?_)
  clear q5 a1 a2
  rintro e w3 ⟨⟨bar, rfl, hbar⟩, k3⟩
  have HB := hid (wholeIs HRU.out.1 hbar)
  have HK3 := hid (HK1.out.nil k3)
  clear hbar k3
  have qp := rparts_any w3 fs (by omega)
  go_wp2_with fail
  (with_reducible refine qp.mono ?_)
  clear qp
  rintro e w4 ⟨v, rfl, hown, hnew⟩
  obtain ⟨L, hL⟩ : ∃ L, L = fs.data.toList := ⟨_, rfl⟩
  rw [← hL] at hown
  obtain ⟨A, c, rfl, hsp, hc1, hc2, -⟩ := hown.shape
  obtain ⟨N, hN⟩ : ∃ N, N = (partsL L).length := ⟨_, rfl⟩
  rw [← hN] at hc1 ⊢
  have hN40 : N ≤ 40 := by have := length_parts_le L; have h2 : fs.data.toList.length = fs.size := rfl; rw [hN]; rw [hL] at this ⊢; omega
  have HK4 := hid (And.intro (HK3.out.nil hnew.kp) (And.intro hsp (And.intro hL hN)))
  clear hown hnew hsp hc2 hL hN
  go_wp2_with fail
  go_loopg [12, 14, 15] (N + 1) (fun gg v12 v14 v15 wx => wx = w4 ∧ ∃ i : Nat, v15 = .int .i64 (i : Int) ∧ v12 = .string (dotS i) ∧ v14 = .bool (((partsL L).take i).any fun p => p == [10]) ∧ i + gg = N + 1 ∧ i ≤ N)
  case atStart => exact ⟨rfl, 0, rfl, rfl, rfl, by omega, by omega⟩
  case round =>
    obtain ⟨hw, i, rfl, rfl, rfl, hig, hiN⟩ := hrel
    have hw2 := hw.symm
    subst hw2
    clear hw
    obtain ⟨ln, hln⟩ : ∃ b, b = (((partsL L).take i).any fun p => p == [10]) := ⟨_, rfl⟩
    rw [← hln]
    obtain ⟨di, hdi⟩ : ∃ t, t = dotS i := ⟨_, rfl⟩
    rw [← hdi]
    obtain ⟨dj, hdj⟩ : ∃ t, t = dotS (i + 1) := ⟨_, rfl⟩
    have zdi : di.size = i := by rw [hdi, dot_size]
    have zdj : dj.size = i + 1 := by rw [hdj, dot_size]
    have ad := fun W => cat_run (P := Try.prog) (s := di) (t := ⟨#[46]⟩) (u := dj) (by rw [hdi, hdj, dot_succ]) (by show di.size + 1 ≤ _; omega) W
    have HD := hid (And.intro hln (And.intro hdi hdj))
    clear hln hdi hdj
    by_cases hlt : i < N
    · have b0 : decide ((i : Int) < (N : Int)) = true := decide_eq_true (by omega)
      have b1 : decide (i < N) = true := decide_eq_true hlt
      have b2 : decide ((i : Int) < 40) = true := decide_eq_true (by omega)
      have b3 : (i : Int) < (N : Int) := by omega
      have iw : IntKind.i64.wrap ((i : Int) + 1) = (i : Int) + 1 := IntWalk.i64_in _ (by omega)
      obtain ⟨pt, hpt⟩ : ∃ p, (partsL L)[i]? = some p := ⟨_, List.getElem?_eq_getElem (by have := HK4.out.2.2.2; omega)⟩
      obtain ⟨A0, rfl, yp⟩ := HK4.out.2.1 i (strV pt) (by rw [List.getElem?_map, hpt]; rfl)
      have HP := hid hpt
      clear hpt
      unfold strV at yp
      cases ln with
      | true =>
        go_wp2_with fail
        go_roundg (gk - 1)
        case measure => omega
        case rel =>
          refine ⟨rfl, i + 1, rfl, by rw [HD.out.2.2], ?_, by omega, by omega⟩
          rw [List.take_add_one, HP.out, List.any_append, ← HD.out.1]
          rfl
      | false =>
        go_wp2_with fail
        go_roundg (gk - 1)
        case measure => omega
        case rel =>
          refine ⟨rfl, i + 1, rfl, by rw [HD.out.2.2], ?_, by omega, by omega⟩
          rw [List.take_add_one, HP.out, List.any_append, ← HD.out.1]
          simp
    · have b0 : decide ((i : Int) < (N : Int)) = false := decide_eq_false (by omega)
      have b1 : decide (i < N) = false := decide_eq_false hlt
      have b3 : ¬ (i : Int) < (N : Int) := by omega
      obtain rfl : i = N := by omega
      have r1 : reR di = some (lit dotF .eps (List.replicate i 46)) := by rw [HD.out.2.1]; exact dot_re (by omega)
      have r2 : reR dj = some (lit dotF .eps (List.replicate (i + 1) 46)) := by rw [HD.out.2.2]; exact dot_re (by omega)
      have q6 := whole_any w4 di fs (by omega) (by omega)
      rw [code_some r1] at q6
      simp only [show ((0 : Nat) : Int) = 0 from rfl] at q6
      have HR := hid (And.intro r1 (And.intro r2 (code_some r2)))
      clear r1 r2
      go_wp2_with fail
      (with_reducible refine q6.mono ?_)
      clear q6
      rintro e w5 ⟨⟨al, rfl, hal⟩, k5⟩
      have HA := hid (wholeIs HR.out.1 hal)
      have HK5 := hid (HK4.out.1.nil k5)
      clear hal k5
      have q7 := whole_any w5 dj fs (by omega) (by omega)
      rw [HR.out.2.2] at q7
      simp only [show ((0 : Nat) : Int) = 0 from rfl] at q7
      go_wp2_with fail
      (with_reducible refine q7.mono ?_)
      clear q7
      rintro e w6 ⟨⟨mo, rfl, hmo⟩, k6⟩
      have HM := hid (wholeIs HR.out.2.1 hmo)
      have HK6 := hid (HK5.out.nil k6)
      clear hmo k6 ad
      have hlc : (cps fs).length = i := by
        unfold cps cpsL
        rw [List.length_map, ← HK4.out.2.2.1]
        exact HK4.out.2.2.2.symm
      have hmo : mo = false := by
        cases mo
        · rfl
        · have := (dots_whole.1 (HM.out.1 rfl)).1
          omega
      subst hmo
      have hln : ln = decide (10 ∈ cps fs) := by
        rw [HD.out.1, HK4.out.2.2.2, List.take_length, HK4.out.2.2.1]
        exact newline_any HVF.out
      have hal : al = !ln := by
        rw [Bool.eq_iff_iff, HA.out, dots_whole, hln]
        simp [hlc]
      subst hal
      have hbar : bar = true ↔ fs = x ∨ fs = y := by
        rw [HB.out, mt_alt, lit_whole, lit_whole, HRU.out.2.1, HRU.out.2.2]
      have HBAR := hid hbar
      clear hbar hln hlc HM HA
      obtain ⟨i1, hi1⟩ : ∃ b, b = (fs.toList == x.toList) := ⟨_, rfl⟩
      obtain ⟨i2, hi2⟩ : ∃ b, b = (fs.toList == y.toList) := ⟨_, rfl⟩
      have inj : ∀ t : ByteArray, fs = t ↔ fs.toList = t.toList := fun t => by
        constructor
        · rintro rfl; rfl
        · intro h
          rw [ByteArray.toList_eq, ByteArray.toList_eq] at h
          exact ByteArray.ext (Array.toList_inj.1 h)
      have e1 : (fs.toList == x.toList) = i1 := hi1.symm
      have e2 : (fs.toList == y.toList) = i2 := hi2.symm
      have hb2 : bar = (i1 || i2) := by
        rw [Bool.eq_iff_iff, HBAR.out, hi1, hi2, Bool.or_eq_true, beq_iff_eq, beq_iff_eq, inj x, inj y]
      subst hb2
      clear hi1 hi2 inj HBAR
      cases ln <;> cases i1 <;> cases i2
      all_goals go_wp2_with fail
      all_goals
        go_ret
        exact ⟨rfl, HK6.out⟩
end Go.Proofs.Ytaaikjedagnjbaa
