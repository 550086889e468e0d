/- CatsWords, walked: the mask of names is that of each alone, together, in whichever order; and that of a text with one that is none there is none. -/
import Derived.Test.YtgjffkblhhkjmaaDoorCParts
namespace Go.Proofs.YtgjffkblhhkjmaaDoor
open Go Go.RowKit Go.Maps

theorem pieces_app : ∀ (N r : Txt), pieces (N ++ 32 :: r) = pieces N ++ pieces r
  | [], r => pieces_cut (x := []) r (by simp)
  | c :: t, r => by
    have ih := pieces_app t r
    show pieces (c :: (t ++ 32 :: r)) = _
    by_cases hc : c = 32
    · rw [pieces, if_pos hc, pieces, if_pos hc, ih]; rfl
    · rw [pieces, if_neg hc, pieces, if_neg hc, ih]
      cases hp : pieces t with
      | nil => exact absurd hp (pieces_ne t)
      | cons y ys => rfl
theorem words_app (N r : Txt) : wordsL (N ++ 32 :: r) = wordsL N ++ wordsL r := by
  unfold wordsL
  rw [pieces_app, List.filter_append]
theorem words_name {x : Txt} (h : nameL x = true) : wordsL x = [x] := by
  have := name_ne h
  rw [words_none this.2, if_neg this.1]
theorem mask_same {C : List Txt} (hn : C.Nodup) {u v : List Txt} (hu : ∀ x ∈ u, x ∈ C) (huv : ∀ x, x ∈ u ↔ x ∈ v) : maskW C u 0 = maskW C v 0 := by
  obtain ⟨a, h1, h2⟩ := maskW_is hn u 0 hu
  obtain ⟨b, h3, h4⟩ := maskW_is hn v 0 (fun x hx => hu x ((huv x).2 hx))
  rw [h1, h3]
  congr 1
  apply Nat.eq_of_testBit_eq
  intro j
  rw [h2, h4]
  congr 2
  simp only [huv]
theorem and_step_off (M k : Nat) (h : M.testBit k = false) : M &&& (2 ^ (k + 1) - 1) = M &&& (2 ^ k - 1) := by
  apply Nat.eq_of_testBit_eq
  intro j
  rw [Nat.testBit_and, Nat.testBit_and, Nat.testBit_two_pow_sub_one, Nat.testBit_two_pow_sub_one]
  by_cases hj : j = k
  · subst hj; rw [h, Bool.false_and, Bool.false_and]
  · congr 1; rw [decide_eq_decide]; omega
theorem and_step_on (M k : Nat) (h : M.testBit k = true) : (M &&& (2 ^ k - 1)) ||| 2 ^ k = M &&& (2 ^ (k + 1) - 1) := by
  apply Nat.eq_of_testBit_eq
  intro j
  rw [Nat.testBit_or, Nat.testBit_and, Nat.testBit_and, Nat.testBit_two_pow_sub_one, Nat.testBit_two_pow_sub_one, Nat.testBit_two_pow]
  by_cases hj : j = k
  · subst hj; rw [h]; simp
  · rw [decide_eq_false (show ¬ k = j from fun e => hj e.symm), Bool.or_false]; congr 1; rw [decide_eq_decide]; omega
/-- A row of names, its mask bits, and both rows of texts, as far as they are laid. -/
def Laid (D : List Txt) (M k : Nat) (Nm Bk : Txt) : Prop :=
  wordsL Nm = namesF (D.take k) M 0 ∧ wordsL Bk = (namesF (D.take k) M 0).reverse ∧ Nm.length ≤ k * 25 ∧ Bk.length ≤ k * 26
theorem Laid.off {D : List Txt} {M k : Nat} {Nm Bk : Txt} (h : Laid D M k Nm Bk) (hk : k < D.length) (hb : M.testBit k = false) : Laid D M (k + 1) Nm Bk := by
  obtain ⟨h1, h2, h3, h4⟩ := h
  have e := namesF_snoc D M k hk
  rw [hb] at e
  simp only [Bool.false_eq_true, if_false, List.append_nil] at e
  exact ⟨by rw [e]; exact h1, by rw [e]; exact h2, by omega, by omega⟩
theorem Laid.on {D : List Txt} {M k : Nat} {Nm Bk x : Txt} (h : Laid D M k Nm Bk) (hk : k < D.length) (hb : M.testBit k = true) (hx : D[k] = x) (hn : nameL x = true) : Laid D M (k + 1) (Nm ++ 32 :: x) (x ++ 32 :: 32 :: Bk) := by
  obtain ⟨h1, h2, h3, h4⟩ := h
  have e := namesF_snoc D M k hk
  rw [hb] at e
  simp only [if_true] at e
  have hl := name_short hn
  have hne := name_ne hn
  refine ⟨?_, ?_, ?_, ?_⟩
  · rw [e, words_app, h1, words_name hn, hx]
  · rw [e, words_cut _ hne.2, if_neg hne.1, words_blank, h2, hx]; simp
  · rw [List.length_append, List.length_cons]; omega
  · rw [List.length_append, List.length_cons, List.length_cons]; omega
theorem known_step (D : List Txt) (X : Txt) (k : Nat) (hk : k < D.length) : decide (X ∈ D.take (k + 1)) = (decide (X ∈ D.take k) || (D[k] == X)) := by
  rw [List.take_add_one, List.getElem?_eq_getElem hk, Bool.eq_iff_iff]
  simp only [Option.toList_some, List.mem_append, List.mem_singleton, decide_eq_true_eq, Bool.or_eq_true, beq_iff_eq]
  exact ⟨fun h => h.imp id Eq.symm, fun h => h.imp id Eq.symm⟩
theorem mE_none (C : List Txt) (N X : Txt) (hX : nameL X = true) (hn : X ∉ C) : mE (maskL C (N ++ 32 :: X)) = 20 := by
  unfold maskL
  rw [words_app, words_name hX, maskW_none _ _ ⟨X, by simp, hn⟩]
  rfl

set_option maxRecDepth 100000 in
set_option maxHeartbeats 25600000 in
theorem lwords_any (w : World) (tabs : Tabs w) (A : Option Addr) (c : Nat) (C : List Txt) (hC : Raws w A c C) (M : Nat) (hM : M < 2 ^ 64) (X : Txt) (hX : X.length ≤ 1048576) :
    Calls Tryd.prog 5 #[.slice A C.length c, .int .u64 (M : Int), .string ⟨X.toArray⟩] w fun e w' => e = .returned (.bool true) ∧ Kp [] w w' := by
  have qsh := shown6_any _ tabs
  have Hml := hid tabs
  have qf := fun W (k : Kp [] w W) => few6_any W A c C (hC.kept k)
  clear tabs hC
  go_enter Tryd.func5, Tryd.ntmps5
  go_wp2_with fail
  refine qsh.mono ?_
  rintro e w1 ⟨rfl, k1⟩
  have HK1 := hid k1
  have q2 := qf w1 HK1.out
  clear k1 qsh qf
  go_wp2_with fail
  (with_reducible refine q2.mono ?_)
  rintro e w2 ⟨v, rfl, ho, k2⟩
  obtain ⟨A2, c2, rfl, hS⟩ := Strs.of_own ho (by have := few_count C; omega) (few_short C)
  obtain ⟨D, hD⟩ : ∃ D, D = fewC C := ⟨_, rfl⟩
  rw [← hD] at hS ⊢
  have qm := cmay_any w2 A2 c2 D hS
  obtain ⟨r, hr⟩ : ∃ r, r = mayC D := ⟨_, rfl⟩
  rw [← hr] at qm
  have HS := hid hS
  have HK2 := hid (HK1.out.nil k2)
  clear k2 ho hS hD q2
  go_wp2_with fail
  (with_reducible refine qm.mono ?_)
  rintro e w3 ⟨rfl, k3⟩
  have HK3 := hid (HK2.out.nil k3)
  have HS3 := hid (HS.out.kept k3)
  clear k3 qm
  by_cases hr0 : r = 0
  · obtain ⟨h64, hnd, hnm⟩ := may_zero (hr.symm.trans hr0)
    have hne : [] ∉ D := fun h => (name_ne (hnm _ h)).1 rfl
    obtain ⟨n, hn⟩ : ∃ n, n = D.length := ⟨_, rfl⟩
    have qk := fun W (h : Strs W A2 c2 D) (hm : ML W) (L : Txt) (hL : L.length ≤ 2000000) => cmask_any W A2 c2 D h hnd h64 hne L hL hm
    simp only [maskV_is, ← hn] at qk
    rw [← hn] at h64 ⊢
    subst hr0
    have hcap := HS.out.cap
    have hcap2 := HS.out.cap2
    rw [← hn] at hcap
    have HN := hid (And.intro hn (And.intro hnm (And.intro hnd hM)))
    have Hqk := hid qk
    clear hr hnd hn hnm hne hM qk
    go_wp2_with fail
    go_loopw [8, 9, 10, 11, 12] (fun v8 v9 v10 v11 v12 wr => Kp [] w3 wr ∧ ∃ (k : Nat) (Nm Bk : Txt), k ≤ n ∧ v12 = .int .i64 (k : Int) ∧ v8 = .string ⟨Nm.toArray⟩ ∧ v9 = .string ⟨Bk.toArray⟩ ∧ v10 = .int .u64 ((M &&& (2 ^ k - 1) : Nat) : Int) ∧ v11 = .bool (decide (X ∈ D.take k)) ∧ Laid D M k Nm Bk) (fun _ _ _ _ v12 _ => n - (intOf v12).toNat)
    case atStart => exact ⟨Kp.refl _ _, 0, [], [], Nat.zero_le _, rfl, rfl, rfl, by simp, by simp, rfl, rfl, Nat.zero_le _, Nat.zero_le _⟩
    case round =>
      obtain ⟨hkp, k, Nm, Bk, hk, rfl, rfl, rfl, rfl, rfl, hlaid⟩ := hrel
      have HKr := hid hkp
      have HSr := hid (HS3.out.kept hkp)
      have HLaid := hid hlaid
      have hNl : Nm.length ≤ 1600 := by have := hlaid.2.2.1; omega
      have hBl : Bk.length ≤ 1700 := by have := hlaid.2.2.2; omega
      clear hkp hlaid
      by_cases hlt : k < n
      · have hkl : k < D.length := by rw [← HN.out.1]; exact hlt
        obtain ⟨ad, hA, hcl, hx9⟩ := HSr.out.at k hkl
        subst hA
        have hkn := known_step D X k hkl
        have hxn := HN.out.2.1 _ (List.getElem_mem hkl)
        have hxi : D[k]? = some D[k] := List.getElem?_eq_getElem hkl
        have hon := fun x (hx : D[k] = x) (h1 : M.testBit k = true) (h2 : nameL x = true) => HLaid.out.on hkl h1 hx h2
        have hoff := fun (h1 : M.testBit k = false) => HLaid.out.off hkl h1
        have haon := and_step_on M k
        have haoff := and_step_off M k
        obtain ⟨x, hx⟩ : ∃ x, x = D[k]'hkl := ⟨_, rfl⟩
        have hon2 := hon x hx.symm
        rw [← hx] at hcl hxn hxi hkn
        have hxl := name_short hxn
        have hb2 := shr_test M k
        have hdiv : ((M : Int) / 2 ^ k) = ((M / 2 ^ k : Nat) : Int) := by rw [Int.natCast_ediv]; simp
        obtain ⟨Q, hQ⟩ : ∃ Q, Q = M / 2 ^ k := ⟨_, rfl⟩
        rw [← hQ] at hb2 hdiv
        have hb3 : ((Q : Int).tmod 2 == 1) = M.testBit k := by rw [Int.tmod_eq_emod_of_nonneg (by omega)]; exact hb2
        have hk64 : (k : Int) ≤ 64 := by omega
        obtain ⟨bo, hbo⟩ : ∃ b, b = M.testBit k := ⟨_, rfl⟩
        rw [← hbo] at hb2 hb3 hon2 hoff haon haoff
        obtain ⟨kn, hkn1⟩ : ∃ b, b = decide (X ∈ D.take k) := ⟨_, rfl⟩
        rw [← hkn1] at hkn ⊢
        obtain ⟨kn2, hkn2⟩ : ∃ b, b = decide (X ∈ D.take (k + 1)) := ⟨_, rfl⟩
        rw [← hkn2] at hkn
        obtain ⟨Wk, hWk⟩ : ∃ b, b = M &&& (2 ^ k - 1) := ⟨_, rfl⟩
        rw [← hWk] at haon haoff ⊢
        have hW64 : Wk < 2 ^ 64 := by rw [hWk]; exact Nat.lt_of_le_of_lt Nat.and_le_left HN.out.2.2.2
        have HKn := hid hkn2
        have HO := hid (And.intro hoff haoff)
        obtain ⟨bx, hbx⟩ : ∃ b, b = (x == X) := ⟨_, rfl⟩
        rw [← hbx] at hkn
        have hbx2 := hbx.symm
        clear hx hon hoff haoff hkn1 hkn2 hWk hbx hQ
        cases bo
        · have Hb := hid hbo
          clear hon2 haon hbo hxi
          cases kn
          all_goals
            have hkf : kn2 = _ := hkn
            simp only [Bool.false_or, Bool.true_or] at hkf
            have Hkf := hid hkf
            clear hkn hkf
            go_wp2_with fail
            go_roundw
            case rel => exact ⟨HKr.out, k + 1, Nm, Bk, by omega, by go_num, rfl, rfl, by rw [HO.out.2 rfl], by rw [← HKn.out, Hkf.out], HO.out.1 rfl⟩
            case measure => simp [intOf]; omega
        · have hlaid2 := hon2 rfl hxn
          have hor := u64_or_nat Wk (2 ^ k) (lt64 hW64) (lt64 (Nat.pow_lt_pow_right (by decide) (by omega)))
          rw [haon rfl] at hor
          have hone : maskL D x = some (2 ^ k) := by
            unfold maskL
            rw [words_name hxn, mask_one HN.out.2.2.1 hxi, Nat.zero_or]
          have q1 := Hqk.out wr HSr.out (Hml.out.kept (HK3.out.nil HKr.out)) x (by omega)
          rw [hone] at q1
          have hsh := shl_one k (by omega)
          obtain ⟨B2, hB2⟩ : ∃ b, b = 2 ^ k := ⟨_, rfl⟩
          simp only [← hB2] at q1 hor hsh
          have hN1 : Nm ++ 32 :: x = Nm ++ [32] ++ x := by simp
          have hB1 : x ++ 32 :: 32 :: Bk = x ++ [32, 32] ++ Bk := by simp
          rw [hN1, hB1] at hlaid2
          obtain ⟨N1, hN1d⟩ : ∃ y, y = Nm ++ [32] := ⟨_, rfl⟩
          obtain ⟨X1, hX1d⟩ : ∃ y, y = x ++ [32, 32] := ⟨_, rfl⟩
          rw [← hN1d, ← hX1d] at hlaid2
          have hN1l : N1.length = Nm.length + 1 := by rw [hN1d]; simp
          have hX1l : X1.length = x.length + 2 := by rw [hX1d]; simp
          obtain ⟨N2, hN2d⟩ : ∃ y, y = N1 ++ x := ⟨_, rfl⟩
          obtain ⟨X2, hX2d⟩ : ∃ y, y = X1 ++ Bk := ⟨_, rfl⟩
          rw [← hN2d, ← hX2d] at hlaid2
          have a1 := fun W => run_add_text (P := Tryd.prog) Nm [32] N1 hN1d (by show Nm.length + 1 ≤ _; omega) W
          have a2 := fun W => run_add_text (P := Tryd.prog) N1 x N2 hN2d (by omega) W
          have a3 := fun W => run_add_text (P := Tryd.prog) x [32, 32] X1 hX1d (by show x.length + 2 ≤ _; omega) W
          have a4 := fun W => run_add_text (P := Tryd.prog) X1 Bk X2 hX2d (by omega) W
          have Hlaid2 := hid hlaid2
          obtain ⟨W2, hW2⟩ : ∃ b, b = M &&& (2 ^ (k + 1) - 1) := ⟨_, rfl⟩
          rw [← hW2] at hor
          have HW2 := hid hW2
          have Hcl := hid hcl
          clear hon2 haon hbo hxi hone hN1 hB1 hN1d hX1d hN2d hX2d hN1l hX1l hlaid2 hW2 hxn HO hB2
          cases kn
          all_goals
            have hkf : kn2 = _ := hkn
            simp only [Bool.false_or, Bool.true_or] at hkf
            have Hkf := hid hkf
            clear hkn hkf
            go_wp2_with fail
            refine q1.mono ?_
            rintro e w5 ⟨rfl, k5⟩
            have Hk5 := hid (HKr.out.nil k5)
            have hcl5 := k5.cell Hcl.out (by simp)
            clear hcl k5
            unfold mN mE
            dsimp only
            go_wp2_with fail
            go_roundw
            case rel => exact ⟨Hk5.out, k + 1, N2, X2, by omega, by go_num, rfl, rfl, by rw [← HW2.out], by rw [← HKn.out, Hkf.out], Hlaid2.out⟩
            case measure => simp [intOf]; omega
      · have hkn : k = n := by omega
        obtain ⟨hw1, hw2, -, -⟩ := HLaid.out
        have htk : D.take k = D := List.take_of_length_le (by rw [hkn, HN.out.1]; exact Nat.le_refl _)
        have hk2 : 2 ^ k - 1 = 2 ^ D.length - 1 := by rw [hkn, HN.out.1]
        rw [htk] at hw1 hw2 ⊢
        have hm1 : maskL D Nm = some (M &&& (2 ^ k - 1)) := by unfold maskL; rw [hw1, hk2]; exact mask_names HN.out.2.2.1 M
        have hm2 : maskL D Bk = some (M &&& (2 ^ k - 1)) := by
          unfold maskL
          rw [hw2, hk2, ← mask_same HN.out.2.2.1 (u := namesF D M 0) names_sub (fun x => by simp)]
          exact mask_names HN.out.2.2.1 M
        have q1 := fun W (k1 : Kp [] wr W) => Hqk.out W (HSr.out.kept k1) (Hml.out.kept ((HK3.out.nil HKr.out).nil k1)) Nm (by omega)
        have q2 := fun W (k1 : Kp [] wr W) => Hqk.out W (HSr.out.kept k1) (Hml.out.kept ((HK3.out.nil HKr.out).nil k1)) Bk (by omega)
        simp only [hm1] at q1
        simp only [hm2] at q2
        obtain ⟨Wk, hWk⟩ : ∃ b, b = M &&& (2 ^ k - 1) := ⟨_, rfl⟩
        simp only [← hWk] at q1 q2 ⊢
        obtain ⟨N1, hN1d⟩ : ∃ y, y = Nm ++ [32] := ⟨_, rfl⟩
        have hN1l : N1.length = Nm.length + 1 := by rw [hN1d]; simp
        obtain ⟨N2, hN2d⟩ : ∃ y, y = N1 ++ X := ⟨_, rfl⟩
        have hN2l : N2.length = N1.length + X.length := by rw [hN2d]; simp
        have a1 := fun W => run_add_text (P := Tryd.prog) Nm [32] N1 hN1d (by show Nm.length + 1 ≤ _; omega) W
        have a2 := fun W => run_add_text (P := Tryd.prog) N1 X N2 hN2d (by omega) W
        have q3 := fun W (k1 : Kp [] wr W) => Hqk.out W (HSr.out.kept k1) (Hml.out.kept ((HK3.out.nil HKr.out).nil k1)) N2 (by omega)
        have hN2e : N2 = Nm ++ 32 :: X := by rw [hN2d, hN1d]; simp
        have hlast : nameL X = true → X ∉ D → mE (maskL D N2) = 20 := by rw [hN2e]; exact mE_none D Nm X
        obtain ⟨om, hom⟩ : ∃ b, b = mN (maskL D N2) := ⟨_, rfl⟩
        obtain ⟨oe, hoe⟩ : ∃ b, b = mE (maskL D N2) := ⟨_, rfl⟩
        simp only [← hom, ← hoe] at q3
        rw [← hoe] at hlast
        have qn := fun W => cname_any W X (by omega)
        obtain ⟨bn, hbn⟩ : ∃ b, b = nameL X := ⟨_, rfl⟩
        rw [← hbn] at hlast
        simp only [← hbn] at qn
        have hkn0 : ∀ b, b = decide (X ∈ D) → b = false → X ∉ D := fun b h1 h2 => of_decide_eq_false (h1 ▸ h2)
        obtain ⟨kn, hkn1⟩ : ∃ b, b = decide (X ∈ D) := ⟨_, rfl⟩
        have hkn2 := hkn0 kn hkn1
        rw [← hkn1]
        have HL := hid hlast
        have HKn := hid hkn2
        have q11 := q1 wr (Kp.refl _ _)
        clear hw1 hw2 htk hk2 hm1 hm2 hWk hN1d hN1l hN2d hN2l hN2e hom hoe hbn hkn0 hkn1 hkn2 hlast
        unfold mN mE at q11 q2
        dsimp only at q11 q2
        go_wp2_with fail
        refine q11.mono ?_
        rintro e w5 ⟨rfl, k5⟩
        have q21 := q2 w5 k5
        have Hk5 := hid k5
        clear k5 q11 q1 q2
        go_wp2_with fail
        refine q21.mono ?_
        rintro e w6 ⟨rfl, k6⟩
        have q31 := q3 w6 (Hk5.out.nil k6)
        have Hk6 := hid (Hk5.out.nil k6)
        clear k6 q21 q3
        go_wp2_with fail
        (with_reducible refine q31.mono ?_)
        rintro e w7 ⟨rfl, k7⟩
        have Hk7 := hid (HK3.out.nil (HKr.out.nil (Hk6.out.nil k7)))
        clear k7 q31
        cases kn
        · cases bn
          · go_wp2_with fail
            (with_reducible refine (qn _).mono ?_)
            rintro e w8 ⟨rfl, k8⟩
            have Hk8 := hid (Hk7.out.nil k8)
            clear k8
            go_wp2_with fail
            go_ret
            exact ⟨rfl, Hk8.out⟩
          · have he : oe = 20 := HL.out rfl (HKn.out rfl)
            subst he
            go_wp2_with fail
            (with_reducible refine (qn _).mono ?_)
            rintro e w8 ⟨rfl, k8⟩
            have Hk8 := hid (Hk7.out.nil k8)
            clear k8
            go_wp2_with fail
            go_ret
            exact ⟨rfl, Hk8.out⟩
        · go_wp2_with fail
          go_ret
          exact ⟨rfl, Hk7.out⟩
  · have bn : (r != 0) = true := by rw [bne_iff_ne]; exact hr0
    clear hr hr0
    go_wp2_with fail
    go_ret
    exact ⟨rfl, HK3.out⟩
theorem lwords_card (W : World) (tabs : Tabs W) (A : Option Addr) (n c : Nat) (C : List Txt) (hC : Raws W A c C) (hn : C.length = n) (a : Int) (ha : 0 ≤ a ∧ a ≤ 18446744073709551615) (s : ByteArray) (_ : s.size ≤ maxLen) (hs : s.size ≤ 1048576) :
    Calls Tryd.prog 5 #[.slice A n c, .int .u64 a, .string s] W fun e W' => e = .returned (.bool true) ∧ Kp [] W W' := by
  subst hn
  obtain ⟨M, rfl, hM⟩ := nat_of ha
  obtain ⟨L, rfl⟩ : ∃ L : Txt, s = ⟨L.toArray⟩ := ⟨s.data.toList, by cases s; simp⟩
  exact lwords_any W tabs A c C hC M hM L (by rw [size_mk] at hs; exact hs)
end Go.Proofs.YtgjffkblhhkjmaaDoor
