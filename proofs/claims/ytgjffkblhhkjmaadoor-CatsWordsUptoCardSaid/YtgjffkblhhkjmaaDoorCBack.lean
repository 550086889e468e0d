/- CatsBack, walked: the mask of the names of a mask is it, but for bits that are no category; and whether masks are cleared. -/
import Derived.Test.YtgjffkblhhkjmaaDoorCMay
namespace Go.Proofs.YtgjffkblhhkjmaaDoor
open Go Go.RowKit Go.Maps

theorem joinB_len2 (K : Nat) : ∀ (l : List Txt), (∀ x ∈ l, x.length ≤ K) → (joinB l).length ≤ l.length * (K + 1)
  | [], _ => Nat.zero_le _
  | [x], h => by have := h x (by simp); simp [joinB]; omega
  | x :: y :: r, h => by
    have h1 := h x (by simp)
    have h2 := joinB_len2 K (y :: r) (fun z hz => h z (List.mem_cons_of_mem _ hz))
    show (x ++ 32 :: joinB (y :: r)).length ≤ _
    rw [List.length_append, List.length_cons, List.length_cons, Nat.add_mul]
    omega
theorem name_short {x : Txt} (h : nameL x = true) : x.length ≤ 24 := ((name_bytes x).1 h).1.2
theorem names_join_len {D : List Txt} (h64 : D.length ≤ 64) (hnm : ∀ x ∈ D, nameL x = true) (M : Nat) : (joinB (namesL D M)).length ≤ 1600 := by
  have h1 := joinB_len2 24 (namesL D M) (fun x hx => name_short (hnm x (names_sub x hx)))
  have h2 := namesF_count D M 0
  have h3 : (namesL D M).length ≤ 64 := Nat.le_trans h2 h64
  have := Nat.mul_le_mul_right 25 h3
  omega
theorem mask_of_names {D : List Txt} (hnd : D.Nodup) (hnm : ∀ x ∈ D, nameL x = true) (M : Nat) : maskL D (joinB (namesL D M)) = some (M &&& (2 ^ D.length - 1)) := by
  unfold maskL
  rw [words_join (fun x hx => name_ne (hnm x (names_sub x hx)))]
  exact mask_names hnd M
theorem ones_step (k : Nat) : (2 ^ k - 1) ||| 2 ^ k = 2 ^ (k + 1) - 1 := by
  apply Nat.eq_of_testBit_eq
  intro j
  rw [Nat.testBit_or, Nat.testBit_two_pow_sub_one, Nat.testBit_two_pow, Nat.testBit_two_pow_sub_one]
  rw [Bool.eq_iff_iff]
  simp only [Bool.or_eq_true, decide_eq_true_eq]
  omega
theorem or_idem (a b : Nat) : a ||| (a ||| b) = a ||| b := by
  apply Nat.eq_of_testBit_eq; intro j; rw [Nat.testBit_or, Nat.testBit_or]; cases a.testBit j <;> simp
theorem and_or (a b : Nat) : (a &&& b) ||| a = a := by
  apply Nat.eq_of_testBit_eq; intro j; rw [Nat.testBit_or, Nat.testBit_and]; cases a.testBit j <;> simp
theorem or_both (a b c : Nat) : (a ||| b) ||| c = c ↔ a ||| c = c ∧ b ||| c = c := by
  constructor
  · intro h
    constructor <;>
    · apply Nat.eq_of_testBit_eq
      intro j
      have h2 := congrArg (fun x => x.testBit j) h
      simp only [Nat.testBit_or] at h2 ⊢
      revert h2
      cases a.testBit j <;> cases b.testBit j <;> cases c.testBit j <;> simp
  · rintro ⟨h1, h2⟩
    apply Nat.eq_of_testBit_eq
    intro j
    have h3 := congrArg (fun x => x.testBit j) h1
    have h4 := congrArg (fun x => x.testBit j) h2
    simp only [Nat.testBit_or] at h3 h4 ⊢
    revert h3 h4
    cases a.testBit j <;> cases b.testBit j <;> cases c.testBit j <;> simp
theorem lt64 {a : Nat} (h : a < 2 ^ 64) : a < 18446744073709551616 := h

set_option maxRecDepth 100000 in
set_option maxHeartbeats 12800000 in
theorem lback_any (w : World) (tabs : Tabs w) (A : Option Addr) (c : Nat) (C : List Txt) (hC : Raws w A c C) (a b d : Nat) (ha : a < 2 ^ 64) (hb : b < 2 ^ 64) (hd : d < 2 ^ 64) :
    Calls Tryd.prog 6 #[.slice A C.length c, .agg #[.int .u64 (a : Int), .int .u64 (b : Int), .int .u64 (d : Int)]] w fun e w' => e = .returned (.bool true) ∧ Kp [] w w' := by
  have h0 : Cells (w.alloc (.cells #[.int .u64 (a : Int), .int .u64 (b : Int), .int .u64 (d : Int)] 38)) w.heap.size 38 [.int .u64 (a : Int), .int .u64 (b : Int), .int .u64 (d : Int)] := Cells.fresh w 38 [.int .u64 (a : Int), .int .u64 (b : Int), .int .u64 (d : Int)]
  have k0 : Kp [] w (w.alloc (.cells #[.int .u64 (a : Int), .int .u64 (b : Int), .int .u64 (d : Int)] 38)) := (Kp.refl _ _).alloc _
  have hml := ML.kept tabs k0
  have qsh := shown6_any _ hml
  have Hml := hid tabs
  have qf := fun W (k : Kp [] w W) => few6_any W A c C (hC.kept k)
  have HK0 := hid k0
  obtain ⟨B, hB⟩ : ∃ B, B = w.heap.size := ⟨_, rfl⟩
  rw [← hB] at h0
  have H0 := hid h0
  have HB := hid hB
  have HA := hid (And.intro ha (And.intro hb hd))
  clear h0 k0 tabs hC hB hml ha hb hd
  go_enter Tryd.func6, Tryd.ntmps6
  go_wp2_with fail
  refine qsh.mono ?_
  rintro e w1 ⟨rfl, k1⟩
  have H1 := hid (H0.out.keep k1 (by simp))
  have HK1 := hid (HK0.out.nil k1)
  have q2 := qf w1 HK1.out
  clear k1 qsh qf
  go_wp2_with fail
  (with_reducible refine q2.mono ?_)
  rintro e w2 ⟨v, rfl, ho, k2⟩
  obtain ⟨A2, c2, rfl, hS⟩ := Strs.of_own ho (by have := few_count C; omega) (few_short C)
  obtain ⟨D, hD⟩ : ∃ D, D = fewC C := ⟨_, rfl⟩
  rw [← hD] at hS ⊢
  have qm := cmay_any w2 A2 c2 D hS
  obtain ⟨r, hr⟩ : ∃ r, r = mayC D := ⟨_, rfl⟩
  rw [← hr] at qm
  have H2 := hid (H1.out.keep k2 (by simp))
  have HS := hid hS
  have HK2 := hid (HK1.out.nil k2)
  rw [← HB.out]
  clear k2 ho hS hD q2
  go_wp2_with fail
  (with_reducible refine qm.mono ?_)
  rintro e w3 ⟨rfl, k3⟩
  have HK3 := hid (HK2.out.nil k3)
  have HS3 := hid (HS.out.kept k3)
  have H3 := hid (H2.out.keep k3 (by simp))
  clear k3 qm
  by_cases hr0 : r = 0
  · obtain ⟨h64, hnd, hnm⟩ := may_zero (hr.symm.trans hr0)
    have hne : [] ∉ D := fun h => (name_ne (hnm _ h)).1 rfl
    obtain ⟨n, hn⟩ : ∃ n, n = D.length := ⟨_, rfl⟩
    have hjl := names_join_len h64 hnm a
    have hmk := mask_of_names hnd hnm a
    have qn := fun W (h : Strs W A2 c2 D) => cnames_any W A2 c2 D h h64 a HA.out.1
    obtain ⟨J, hJ⟩ : ∃ J, J = joinB (namesL D a) := ⟨_, rfl⟩
    have qk := fun W (h : Strs W A2 c2 D) (hm : ML W) => cmask_any W A2 c2 D h hnd h64 hne J (by rw [hJ]; omega) hm
    simp only [← hJ] at qn hmk
    rw [← hn] at hmk h64 ⊢
    simp only [hmk, ← hn] at qk qn
    obtain ⟨R, hR⟩ : ∃ R, R = a &&& (2 ^ n - 1) := ⟨_, rfl⟩
    have hand := u64_and_nat a (2 ^ n - 1) HA.out.1 (by have : 2 ^ n ≤ 2 ^ 64 := Nat.pow_le_pow_right (by decide) h64; have h2 : 0 < 2 ^ n := Nat.two_pow_pos n; omega)
    rw [← hR] at hand
    simp only [← hR] at qk
    subst hr0
    have hcap := HS.out.cap
    have hcap2 := HS.out.cap2
    rw [← hn] at hcap
    have HN := hid (And.intro hn hR)
    clear hr hnd hnm hne hjl hmk hJ hn hR
    go_wp2_with fail
    go_loopw [6, 7] (fun v6 v7 wr => wr = w3 ∧ ∃ k : Nat, k ≤ n ∧ v7 = .int .i64 (k : Int) ∧ v6 = .int .u64 ((2 ^ k - 1 : Nat) : Int)) (fun _ v7 _ => n - (intOf v7).toNat)
    case atStart => exact ⟨rfl, 0, Nat.zero_le _, rfl, rfl⟩
    case round =>
      obtain ⟨hwr, k, hk, rfl, rfl⟩ := hrel
      have hwr2 := hwr.symm
      subst hwr2
      by_cases hlt : k < n
      · have hkl : k < 64 := by omega
        have hp : 2 ^ k < 2 ^ 64 := Nat.pow_lt_pow_right (by decide) hkl
        have hor := u64_or_nat (2 ^ k - 1) (2 ^ k) (by have := lt64 hp; omega) (lt64 hp)
        rw [ones_step] at hor
        have hsh := shl_one k hkl
        have hnx : ((2 ^ (k + 1) - 1 : Nat) : Int) = ((2 ^ (k + 1) - 1 : Nat) : Int) := rfl
        obtain ⟨P0, hP0⟩ : ∃ x, x = 2 ^ k - 1 := ⟨_, rfl⟩
        obtain ⟨P1, hP1⟩ : ∃ x, x = 2 ^ k := ⟨_, rfl⟩
        obtain ⟨P2, hP2⟩ : ∃ x, x = 2 ^ (k + 1) - 1 := ⟨_, rfl⟩
        rw [← hP0, ← hP1, ← hP2] at hor
        rw [← hP1] at hsh
        rw [← hP0]
        have HP := hid hP2
        have hk64 : (k : Int) ≤ 64 := by omega
        clear hp hnx hP0 hP1 hP2
        go_wp2_with fail
        go_roundw
        case rel => exact ⟨trivial, k + 1, by omega, by go_num, by rw [← HP.out]⟩
        case measure => simp [intOf]; omega
      · have hkn : k = n := by omega
        subst hkn
        obtain ⟨All, hAll⟩ : ∃ x, x = 2 ^ k - 1 := ⟨_, rfl⟩
        rw [← hAll] at hand ⊢
        have x0 := H3.out.cell 0
        have x1 := H3.out.cell 1
        have x2 := H3.out.cell 2
        simp only [List.getElem?_cons_zero, List.getElem?_cons_succ] at x0 x1 x2
        have q1 := qn w3 HS3.out
        clear hAll qn hlt
        go_wp2_with fail
        (with_reducible refine q1.mono ?_)
        rintro e w4 ⟨rfl, k4⟩
        have q2 := qk w4 (HS3.out.kept k4) (Hml.out.kept (HK3.out.nil k4))
        have HK4 := hid (HK3.out.nil k4)
        have H4 := hid (H3.out.keep k4 (by simp))
        clear k4 q1 qk x0 x1 x2
        go_wp2_with fail
        refine q2.mono ?_
        rintro e w5 ⟨rfl, k5⟩
        have HK5 := hid (HK4.out.nil k5)
        have H5 := H4.out.keep k5 (by simp)
        have x0 := H5.cell 0
        have x1 := H5.cell 1
        have x2 := H5.cell 2
        simp only [List.getElem?_cons_zero, List.getElem?_cons_succ] at x0 x1 x2
        have ha := HA.out.1
        have hb := HA.out.2.1
        have hd := HA.out.2.2
        have hab : a ||| b < 2 ^ 64 := Nat.or_lt_two_pow ha hb
        have qa := fun W => cwithin_any W a d ha hd
        have qb := fun W => cwithin_any W b d hb hd
        have qc := fun W => cwithin_any W a a ha ha
        have qd := fun W => cwithin_any W a (a ||| b) ha hab
        have qe := fun W => cwithin_any W (a &&& b) a (Nat.and_lt_two_pow a hb) ha
        have qg := fun W => cwithin_any W (a ||| b) d hab hd
        have qh := fun W => cwithin_any W 0 a (by decide) ha
        have e1 : decide (a ||| a = a) = true := decide_eq_true (Nat.or_self a)
        have e2 : decide (a ||| (a ||| b) = a ||| b) = true := decide_eq_true (or_idem a b)
        have e3 : decide ((a &&& b) ||| a = a) = true := decide_eq_true (and_or a b)
        have e4 : decide ((a ||| b) ||| d = d) = (decide (a ||| d = d) && decide (b ||| d = d)) := by rw [← Bool.decide_and, decide_eq_decide]; exact or_both a b d
        have e5 : decide (0 ||| a = a) = true := decide_eq_true (Nat.zero_or a)
        simp only [e1] at qc
        simp only [e2] at qd
        simp only [e3] at qe
        simp only [e4] at qg
        simp only [e5] at qh
        obtain ⟨ba, hba⟩ : ∃ x, x = decide (a ||| d = d) := ⟨_, rfl⟩
        obtain ⟨bb, hbb⟩ : ∃ x, x = decide (b ||| d = d) := ⟨_, rfl⟩
        simp only [← hba] at qa qg
        simp only [← hbb] at qb qg
        have hor := u64_or_nat a b (lt64 ha) (lt64 hb)
        have hand2 := u64_and_nat a b (lt64 ha) (lt64 hb)
        obtain ⟨O1, hO1⟩ : ∃ x, x = a ||| b := ⟨_, rfl⟩
        obtain ⟨A1, hA1⟩ : ∃ x, x = a &&& b := ⟨_, rfl⟩
        rw [← hO1] at hor
        rw [← hA1] at hand2
        simp only [← hO1] at qd qg
        simp only [← hA1] at qe
        clear k5 q2 H5 e1 e2 e3 e4 e5 hab hba hbb hO1 hA1 ha hb hd
        unfold maskV
        go_wp2_with fail
        (with_reducible refine (qa _).mono ?_)
        rintro e w6 ⟨rfl, rfl⟩
        go_wp2_with fail
        (with_reducible refine (qb _).mono ?_)
        rintro e w6 ⟨rfl, rfl⟩
        cases ba
        all_goals
          go_wp2_with fail
          (with_reducible refine (qc _).mono ?_)
          rintro e w6 ⟨rfl, rfl⟩
          go_wp2_with fail
          (with_reducible refine (qd _).mono ?_)
          rintro e w6 ⟨rfl, rfl⟩
          go_wp2_with fail
          (with_reducible refine (qe _).mono ?_)
          rintro e w6 ⟨rfl, rfl⟩
          go_wp2_with fail
          (with_reducible refine (qg _).mono ?_)
          rintro e w6 ⟨rfl, rfl⟩
          go_wp2_with fail
          refine (qh _).mono ?_
          rintro e w6 ⟨rfl, rfl⟩
          go_wp2_with fail
          go_ret
          exact ⟨rfl, HK5.out⟩
  · have bn : (r != 0) = true := by rw [bne_iff_ne]; exact hr0
    clear hr hr0
    go_wp2_with fail
    go_ret
    exact ⟨rfl, HK3.out⟩
theorem lback_card (W : World) (tabs : Tabs W) (A : Option Addr) (n c : Nat) (C : List Txt) (hC : Raws W A c C) (hn : C.length = n) (a b d : Int) (ha : 0 ≤ a ∧ a ≤ 18446744073709551615) (hb : 0 ≤ b ∧ b ≤ 18446744073709551615) (hd : 0 ≤ d ∧ d ≤ 18446744073709551615) :
    Calls Tryd.prog 6 #[.slice A n c, .agg #[.int .u64 a, .int .u64 b, .int .u64 d]] W fun e W' => e = .returned (.bool true) ∧ Kp [] W W' := by
  subst hn
  obtain ⟨M, rfl, hM⟩ := nat_of ha
  obtain ⟨N, rfl, hN⟩ := nat_of hb
  obtain ⟨O, rfl, hO⟩ := nat_of hd
  exact lback_any W tabs A c C hC M N O hM hN hO
end Go.Proofs.YtgjffkblhhkjmaaDoor
