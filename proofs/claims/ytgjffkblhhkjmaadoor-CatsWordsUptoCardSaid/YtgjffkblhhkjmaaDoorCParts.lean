/- CatsParts, walked: the names of two masks together, and each in its place. -/
import Derived.Test.YtgjffkblhhkjmaaDoorCBack
namespace Go.Proofs.YtgjffkblhhkjmaaDoor
open Go Go.RowKit Go.Maps

theorem words_of_names {D : List Txt} (hnm : ∀ x ∈ D, nameL x = true) (M : Nat) : wordsL (joinB (namesL D M)) = namesL D M :=
  words_join (fun x hx => name_ne (hnm x (names_sub x hx)))
theorem andnot_bit (a b : Nat) (ha : a < 2 ^ 64) (hb : b < 2 ^ 64) (j : Nat) : (a &&& (18446744073709551615 - b)).testBit j = (a.testBit j && !b.testBit j) := by
  have e := Nat.testBit_two_pow_sub_succ (x := b) (n := 64) hb j
  rw [show 2 ^ 64 - (b + 1) = 18446744073709551615 - b by have := lt64 hb; omega] at e
  rw [Nat.testBit_and, e]
  by_cases hj : j < 64
  · rw [decide_eq_true hj, Bool.true_and]
  · have : a.testBit j = false := Nat.testBit_lt_two_pow (Nat.lt_of_lt_of_le ha (Nat.pow_le_pow_right (by decide) (by omega)))
    rw [this, Bool.false_and, Bool.false_and]
theorem names_both (D : List Txt) (a b : Nat) (ha : a < 2 ^ 64) (hb : b < 2 ^ 64) : (namesL D (a ||| b)).length = (namesL D (a &&& (18446744073709551615 - b))).length + (namesL D b).length := by
  unfold namesL
  rw [namesF_len, namesF_len, namesF_len]
  exact cnt_parts _ a b _ 0 (andnot_bit a b ha hb)
theorem names_at (D : List Txt) (m k : Nat) (h : k < D.length) (hb : m.testBit k = true) : (namesL D m)[(namesF (D.take k) m 0).length]? = some D[k] := by
  unfold namesL
  rw [names_split D m 0 k, List.getElem?_append_right (Nat.le_refl _), Nat.sub_self, Nat.zero_add, List.drop_eq_getElem_cons h]
  simp only [namesF, hb, if_true, List.getElem?_cons_zero]
set_option maxRecDepth 100000 in
set_option maxHeartbeats 12800000 in
theorem lparts_any (w : World) (tabs : Tabs w) (A : Option Addr) (c : Nat) (C : List Txt) (hC : Raws w A c C) (a b : Nat) (ha : a < 2 ^ 64) (hb : b < 2 ^ 64) :
    Calls Tryd.prog 7 #[.slice A C.length c, .int .u64 (a : Int), .int .u64 (b : Int)] w fun e w' => e = .returned (.bool true) ∧ Kp [] w w' := by
  have qsh := shown6_any _ tabs
  have qf := fun W (k : Kp [] w W) => few6_any W A c C (hC.kept k)
  have HA := hid (And.intro ha hb)
  clear tabs hC ha hb
  go_enter Tryd.func7, Tryd.ntmps7
  go_wp2_with fail
  refine qsh.mono ?_
  rintro e w1 ⟨rfl, k1⟩
  have HK1 := hid k1
  have q2 := qf w1 HK1.out
  clear k1 qsh qf
  go_wp2_with fail
  (with_reducible refine q2.mono ?_)
  rintro e w2 ⟨v, rfl, ho, k2⟩
  obtain ⟨A2, c2, rfl, hS⟩ := Strs.of_own ho (by have := few_count C; omega) (few_short C)
  obtain ⟨D, hD⟩ : ∃ D, D = fewC C := ⟨_, rfl⟩
  rw [← hD] at hS ⊢
  have qm := cmay_any w2 A2 c2 D hS
  obtain ⟨r, hr⟩ : ∃ r, r = mayC D := ⟨_, rfl⟩
  rw [← hr] at qm
  have HS := hid hS
  have HK2 := hid (HK1.out.nil k2)
  clear k2 ho hS hD q2
  go_wp2_with fail
  (with_reducible refine qm.mono ?_)
  rintro e w3 ⟨rfl, k3⟩
  have HK3 := hid (HK2.out.nil k3)
  have HS3 := hid (HS.out.kept k3)
  clear k3 qm
  by_cases hr0 : r = 0
  · obtain ⟨h64, hnd, hnm⟩ := may_zero (hr.symm.trans hr0)
    obtain ⟨n, hn⟩ : ∃ n, n = D.length := ⟨_, rfl⟩
    have hand := u64_andNot_nat a b (lt64 HA.out.1) (lt64 HA.out.2)
    have hor := u64_or_nat a b (lt64 HA.out.1) (lt64 HA.out.2)
    have hboth := names_both D a b HA.out.1 HA.out.2
    have hn64 : a &&& (18446744073709551615 - b) < 2 ^ 64 := Nat.and_lt_two_pow a (by have : (2 : Nat) ^ 64 = 18446744073709551616 := rfl; omega)
    have ho64 : a ||| b < 2 ^ 64 := Nat.or_lt_two_pow HA.out.1 HA.out.2
    obtain ⟨g, hg⟩ : ∃ x, x = a &&& (18446744073709551615 - b) := ⟨_, rfl⟩
    obtain ⟨m, hm⟩ : ∃ x, x = a ||| b := ⟨_, rfl⟩
    rw [← hg] at hand hboth hn64
    rw [← hm] at hor hboth ho64
    have qn := fun W (h : Strs W A2 c2 D) M (hM : M < 2 ^ 64) => cnames_any W A2 c2 D h h64 M hM
    have qw := fun M W => rwords_any W (joinB (namesL D M)) (by have := names_join_len h64 hnm M; omega)
    simp only [words_of_names hnm] at qw
    simp only [← hn] at qn
    rw [← hn] at h64 ⊢
    subst hr0
    have hcap := HS.out.cap
    have hcap2 := HS.out.cap2
    rw [← hn] at hcap
    have HN := hid (And.intro hn (And.intro hnm hboth))
    have HM := hid (And.intro hn64 ho64)
    have q1 := qn w3 HS3.out g hn64
    clear hr hnd hn hnm hboth hg hn64 ho64 hm
    obtain ⟨Jg, hJg⟩ : ∃ x, x = joinB (namesL D g) := ⟨_, rfl⟩
    obtain ⟨Jb, hJb⟩ : ∃ x, x = joinB (namesL D b) := ⟨_, rfl⟩
    obtain ⟨Jm, hJm⟩ : ∃ x, x = joinB (namesL D m) := ⟨_, rfl⟩
    have qg := qw g
    have qb := qw b
    have qz := qw m
    rw [← hJg] at q1 qg
    rw [← hJb] at qb
    rw [← hJm] at qz
    have HJ := hid (And.intro hJb hJm)
    clear qw hJg hJb hJm
    go_wp2_with fail
    (with_reducible refine q1.mono ?_)
    rintro e w4 ⟨rfl, k4⟩
    have HK4 := hid (HK3.out.nil k4)
    have HS4 := hid (HS3.out.kept k4)
    clear k4 q1
    go_wp2_with fail
    (with_reducible refine (qg _).mono ?_)
    rintro e w5 ⟨vx, rfl, hx, k5⟩
    obtain ⟨Ax, cx, rfl, -, -, -, -⟩ := hx.shape
    have HK5 := hid (HK4.out.nil k5)
    have HS5 := hid (HS4.out.kept k5)
    have q3 := qn w5 HS5.out b HA.out.2
    rw [← HJ.out.1] at q3
    clear k5 hx qg
    go_wp2_with fail
    (with_reducible refine q3.mono ?_)
    rintro e w6 ⟨rfl, k6⟩
    have HK6 := hid (HK5.out.nil k6)
    have HS6 := hid (HS5.out.kept k6)
    clear k6 q3
    go_wp2_with fail
    (with_reducible refine (qb _).mono ?_)
    rintro e w7 ⟨vy, rfl, hy, k7⟩
    obtain ⟨Ay, cy, rfl, -, -, -, -⟩ := hy.shape
    have HK7 := hid (HK6.out.nil k7)
    have HS7 := hid (HS6.out.kept k7)
    have q5 := qn w7 HS7.out m HM.out.2
    rw [← HJ.out.2] at q5
    clear k7 hy qb qn
    go_wp2_with fail
    (with_reducible refine q5.mono ?_)
    rintro e w8 ⟨rfl, k8⟩
    have HK8 := hid (HK7.out.nil k8)
    have HS8 := hid (HS7.out.kept k8)
    clear k8 q5
    go_wp2_with fail
    (with_reducible refine (qz _).mono ?_)
    rintro e w9 ⟨vz, rfl, hz, k9⟩
    obtain ⟨Az, cz, rfl, hsz, hcz, -, -⟩ := hz.shape
    have hcz2 : cz ≤ 9223372036854775807 := by
      rcases hz.2 with ⟨e, _⟩ | ⟨g, cap, cur, e, _, _, _, h3, _⟩
      · injection e with _ _ e; omega
      · injection e with _ _ e; simp only [maxLen] at h3; omega
    have HK9 := hid (HK8.out.nil k9)
    have HS9 := hid (HS8.out.kept k9)
    have Hz := hid hsz
    obtain ⟨Z, hZ⟩ : ∃ x, x = (namesL D m).length := ⟨_, rfl⟩
    obtain ⟨X, hX⟩ : ∃ x, x = (namesL D g).length := ⟨_, rfl⟩
    obtain ⟨Y, hY⟩ : ∃ x, x = (namesL D b).length := ⟨_, rfl⟩
    have hsum : Z = X + Y := by rw [hZ, hX, hY]; exact HN.out.2.2
    have hZl : Z ≤ 64 := by rw [hZ]; exact Nat.le_trans (namesF_count D m 0) (by rw [← HN.out.1]; exact h64)
    rw [← hZ] at hcz ⊢
    rw [← hX, ← hY]
    have HZ := hid hZ
    have HSum := hid hsum
    clear k9 hz hsz qz hZ hX hY hsum
    go_wp2_with fail
    go_loopw [11, 12] (fun v11 v12 wr => Kp [] w9 wr ∧ ∃ k q : Nat, k ≤ n ∧ v12 = .int .i64 (k : Int) ∧ v11 = .int .i64 (q : Int) ∧ q = (namesF (D.take k) m 0).length) (fun _ v12 _ => n - (intOf v12).toNat)
    case atStart => exact ⟨Kp.refl _ _, 0, 0, Nat.zero_le _, rfl, rfl, rfl⟩
    case round =>
      obtain ⟨hkp, k, q, hk, rfl, rfl, hq⟩ := hrel
      have HKr := hid hkp
      clear hkp
      have hqk : q ≤ k := by rw [hq]; have := namesF_count (D.take k) m 0; rw [List.length_take] at this; omega
      have HQ := hid hq
      clear hq
      by_cases hlt : k < n
      · have hkl : k < D.length := by rw [← HN.out.1]; exact hlt
        obtain ⟨ad, hA, hcl, hx9⟩ := (HS9.out.kept HKr.out).at k hkl
        subst hA
        have hst := namesF_snoc D m k hkl
        have hat := names_at D m k hkl
        have hb2 := shr_test m k
        have hdiv : ((m : Int) / 2 ^ k) = ((m / 2 ^ k : Nat) : Int) := by rw [Int.natCast_ediv]; simp
        obtain ⟨Q, hQ⟩ : ∃ Q, Q = m / 2 ^ k := ⟨_, rfl⟩
        rw [← hQ] at hb2 hdiv
        have hb3 : ((Q : Int).tmod 2 == 1) = m.testBit k := by rw [Int.tmod_eq_emod_of_nonneg (by omega)]; exact hb2
        have hk64 : (k : Int) ≤ 64 := by omega
        obtain ⟨x, hx⟩ : ∃ x, x = D[k]'hkl := ⟨_, rfl⟩
        rw [← hx] at hcl hst hat
        obtain ⟨bo, hbo⟩ : ∃ b, b = m.testBit k := ⟨_, rfl⟩
        rw [← hbo] at hb2 hb3 hst hat
        rw [← HQ.out] at hat
        cases bo
        · have hq2 : q = (namesF (D.take (k + 1)) m 0).length := by rw [hst, List.length_append, ← HQ.out]; simp
          have HQ2 := hid hq2
          clear hst hat hQ hx hbo hq2
          go_wp2_with fail
          go_roundw
          case rel => exact ⟨HKr.out, k + 1, q, by omega, by go_num, rfl, HQ2.out⟩
          case measure => simp [intOf]; omega
        · have hz0 := hat rfl
          have hqz : q < Z := by rw [HZ.out]; exact (List.getElem?_eq_some_iff.1 hz0).1
          have hq2 : q + 1 = (namesF (D.take (k + 1)) m 0).length := by rw [hst, List.length_append, ← HQ.out]; simp
          have HQ2 := hid hq2
          obtain ⟨adz, hAz, hz⟩ := (Hz.out.kept HKr.out).get (j := q) (by rw [length_strs, ← HZ.out]; exact hqz)
          subst hAz
          replace hz : wr.cell? (adz.add q) = some (Value.string ⟨x.toArray⟩) := by
            rw [hz]
            have h := List.getElem?_eq_some_iff.1 hz0
            simp only [strs, List.getElem_map, h.2]
          have gq : decide ((Z : Int) ≤ (q : Int)) = false := decide_eq_false (by omega)
          have gqn : decide (Z ≤ q) = false := decide_eq_false (by omega)
          clear hst hat hQ hx hbo hq2 hz0
          go_wp2_with fail
          refine lin_start (fun w' => w'.cell? (adz.add q) = some (Value.string ⟨x.toArray⟩) ∧ w'.cell? (ad.add k) = some (Value.string ⟨x.toArray⟩)) ((Stays.cell _ _).and ((Stays.cell _ _))) (by kernel_rfl) ⟨hz, hcl⟩ (fun hSS hS => ?_)
          refine lin_val (i := 0) (v := ?_) rfl (by kernel_rfl) (by kernel_rfl) (by kernel_rfl) (fun _ _ _ h => h) hSS hS rfl (fun w hSw => ?_) ?_
          rotate_left
          · obtain ⟨q0, q1⟩ := hSw; go_simp; first | done | with_reducible rfl
          simp only [Act.put, List.setIfInBounds_toArray, List.set_cons_zero, List.set_cons_succ]
          refine lin_val (i := 1) (v := ?_) rfl (by kernel_rfl) (by kernel_rfl) (by kernel_rfl) (fun _ _ _ h => h) hSS hS rfl (fun w hSw => ?_) ?_
          rotate_left
          · obtain ⟨q0, q1⟩ := hSw; go_simp; first | done | with_reducible rfl
          simp only [Act.put, List.setIfInBounds_toArray, List.set_cons_zero, List.set_cons_succ]
          refine lin_val (i := 2) (v := ?_) rfl (by kernel_rfl) (by kernel_rfl) (by kernel_rfl) (fun _ _ _ h => h) hSS hS rfl (fun w hSw => ?_) ?_
          rotate_left
          · obtain ⟨q0, q1⟩ := hSw; go_simp; first | done | with_reducible rfl
          simp only [Act.put, List.setIfInBounds_toArray, List.set_cons_zero, List.set_cons_succ]
          refine lin_val (i := 3) (v := ?_) rfl (by kernel_rfl) (by kernel_rfl) (by kernel_rfl) (fun _ _ _ h => h) hSS hS rfl (fun w hSw => ?_) ?_
          rotate_left
          · obtain ⟨q0, q1⟩ := hSw; go_simp; first | done | with_reducible rfl
          simp only [Act.put, List.setIfInBounds_toArray, List.set_cons_zero, List.set_cons_succ]
          refine lin_val (i := 4) (v := ?_) rfl (by kernel_rfl) (by kernel_rfl) (by kernel_rfl) (fun _ _ _ h => h) hSS hS rfl (fun w hSw => ?_) ?_
          rotate_left
          · obtain ⟨q0, q1⟩ := hSw; go_simp; first | done | with_reducible rfl
          simp only [Act.put, List.setIfInBounds_toArray, List.set_cons_zero, List.set_cons_succ]
          refine lin_val (i := 5) (v := ?_) rfl (by kernel_rfl) (by kernel_rfl) (by kernel_rfl) (fun _ _ _ h => h) hSS hS rfl (fun w hSw => ?_) ?_
          rotate_left
          · obtain ⟨q0, q1⟩ := hSw; go_simp; first | done | with_reducible rfl
          simp only [Act.put, List.setIfInBounds_toArray, List.set_cons_zero, List.set_cons_succ]
          refine lin_val (i := 6) (v := ?_) rfl (by kernel_rfl) (by kernel_rfl) (by kernel_rfl) (fun _ _ _ h => h) hSS hS rfl (fun w hSw => ?_) ?_
          rotate_left
          · obtain ⟨q0, q1⟩ := hSw; go_simp; first | done | with_reducible rfl
          simp only [Act.put, List.setIfInBounds_toArray, List.set_cons_zero, List.set_cons_succ]
          refine lin_val (i := 7) (v := ?_) rfl (by kernel_rfl) (by kernel_rfl) (by kernel_rfl) (fun _ _ _ h => h) hSS hS rfl (fun w hSw => ?_) ?_
          rotate_left
          · obtain ⟨q0, q1⟩ := hSw; go_simp; first | done | with_reducible rfl
          simp only [Act.put, List.setIfInBounds_toArray, List.set_cons_zero, List.set_cons_succ]
          refine lin_val (i := 8) (v := ?_) rfl (by kernel_rfl) (by kernel_rfl) (by kernel_rfl) (fun _ _ _ h => h) hSS hS rfl (fun w hSw => ?_) ?_
          rotate_left
          · obtain ⟨q0, q1⟩ := hSw; go_simp; first | done | with_reducible rfl
          simp only [Act.put, List.setIfInBounds_toArray, List.set_cons_zero, List.set_cons_succ]
          refine lin_val (i := 9) (v := ?_) rfl (by kernel_rfl) (by kernel_rfl) (by kernel_rfl) (fun _ _ _ h => h) hSS hS rfl (fun w hSw => ?_) ?_
          rotate_left
          · obtain ⟨q0, q1⟩ := hSw; go_simp; first | done | with_reducible rfl
          simp only [Act.put, List.setIfInBounds_toArray, List.set_cons_zero, List.set_cons_succ]
          refine lin_val (i := 10) (v := ?_) rfl (by kernel_rfl) (by kernel_rfl) (by kernel_rfl) (fun _ _ _ h => h) hSS hS rfl (fun w hSw => ?_) ?_
          rotate_left
          · obtain ⟨q0, q1⟩ := hSw; go_simp; first | done | with_reducible rfl
          simp only [Act.put, List.setIfInBounds_toArray, List.set_cons_zero, List.set_cons_succ]
          refine lin_val (i := 11) (v := ?_) rfl (by kernel_rfl) (by kernel_rfl) (by kernel_rfl) (fun _ _ _ h => h) hSS hS rfl (fun w hSw => ?_) ?_
          rotate_left
          · obtain ⟨q0, q1⟩ := hSw; go_simp; first | done | with_reducible rfl
          simp only [Act.put, List.setIfInBounds_toArray, List.set_cons_zero, List.set_cons_succ]
          refine lin_val (i := 12) (v := ?_) rfl (by kernel_rfl) (by kernel_rfl) (by kernel_rfl) (fun _ _ _ h => h) hSS hS rfl (fun w hSw => ?_) ?_
          rotate_left
          · obtain ⟨q0, q1⟩ := hSw; go_simp; first | done | with_reducible rfl
          simp only [Act.put, List.setIfInBounds_toArray, List.set_cons_zero, List.set_cons_succ]
          refine lin_val (i := 13) (v := ?_) rfl (by kernel_rfl) (by kernel_rfl) (by kernel_rfl) (fun _ _ _ h => h) hSS hS rfl (fun w hSw => ?_) ?_
          rotate_left
          · obtain ⟨q0, q1⟩ := hSw; go_simp; first | done | with_reducible rfl
          simp only [Act.put, List.setIfInBounds_toArray, List.set_cons_zero, List.set_cons_succ]
          refine lin_val (i := 14) (v := ?_) rfl (by kernel_rfl) (by kernel_rfl) (by kernel_rfl) (fun _ _ _ h => h) hSS hS rfl (fun w hSw => ?_) ?_
          rotate_left
          · obtain ⟨q0, q1⟩ := hSw; go_simp; first | done | with_reducible rfl
          simp only [Act.put, List.setIfInBounds_toArray, List.set_cons_zero, List.set_cons_succ]
          refine lin_done (by kernel_rfl) (fun wq kq => ?_) _
          have HKq := hid (HKr.out.drew.nil kq)
          clear hS hSS kq
          go_wp2_with fail
          go_roundw
          case rel => exact ⟨HKq.out, k + 1, q + 1, by omega, by go_num, by go_num, HQ2.out⟩
          case measure => simp [intOf]; omega
      · have hkn : k = n := by omega
        have hqZ : q = Z := by
          rw [HZ.out, HQ.out, hkn, HN.out.1, List.take_length]
          rfl
        have e1 : (X : Int) + (Y : Int) = (Z : Int) := by have := HSum.out; omega
        have hX64 : X ≤ 64 := by have := HSum.out; omega
        have hY64 : Y ≤ 64 := by have := HSum.out; omega
        subst hqZ
        go_wp2_with fail
        go_ret
        exact ⟨rfl, HK9.out.nil HKr.out⟩
  · have bn : (r != 0) = true := by rw [bne_iff_ne]; exact hr0
    clear hr hr0
    go_wp2_with fail
    go_ret
    exact ⟨rfl, HK3.out⟩
theorem lparts_card (W : World) (tabs : Tabs W) (A : Option Addr) (n c : Nat) (C : List Txt) (hC : Raws W A c C) (hn : C.length = n) (a : Int) (ha : 0 ≤ a ∧ a ≤ 18446744073709551615) (b : Int) (hb : 0 ≤ b ∧ b ≤ 18446744073709551615) :
    Calls Tryd.prog 7 #[.slice A n c, .int .u64 a, .int .u64 b] W fun e W' => e = .returned (.bool true) ∧ Kp [] W W' := by
  subst hn
  obtain ⟨M, rfl, hM⟩ := nat_of ha
  obtain ⟨N, rfl, hN⟩ := nat_of hb
  exact lparts_any W tabs A c C hC M N hM hN
end Go.Proofs.YtgjffkblhhkjmaaDoor
