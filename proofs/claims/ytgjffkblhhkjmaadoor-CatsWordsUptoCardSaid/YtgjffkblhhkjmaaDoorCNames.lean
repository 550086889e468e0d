/- Layer 6: a mask written as names; whether a mask is cleared. -/
import Derived.Test.YtgjffkblhhkjmaaDoorCMask
namespace Go.Proofs.YtgjffkblhhkjmaaDoor
open Go Go.RowKit Go.Maps

theorem cinfoStr : (Tryd.prog.info? 9).map (fun i => (i.zero, i.size, i.bytes)) = some (some (.string ⟨#[]⟩), 1, 16) := by kernel_rfl
theorem cone_string (x : ByteArray) : ∀ u ∈ [Value.string x], u.oneCell' = true := by
  intro u hu
  rw [List.mem_singleton.1 hu]
  rfl
theorem join_is : ∀ l : List Txt, Lib.join l [32] = joinB l
  | [] => rfl
  | [x] => Lib.join_one x [32]
  | x :: y :: r => by
    rw [Lib.join_cons]
    show x ++ ([32] ++ y ++ Lib.joinTail [32] r) = x ++ 32 :: joinB (y :: r)
    rw [← join_is (y :: r), Lib.join_cons]
    simp
theorem joinB_len : ∀ (l : List Txt), (∀ x ∈ l, x.length ≤ 2000000) → (joinB l).length ≤ l.length * 2000001
  | [], _ => Nat.zero_le _
  | [x], h => by have := h x (by simp); simp [joinB]; omega
  | x :: y :: r, h => by
    have h1 := h x (by simp)
    have h2 := joinB_len (y :: r) (fun z hz => h z (List.mem_cons_of_mem _ hz))
    show (x ++ 32 :: joinB (y :: r)).length ≤ _
    rw [List.length_append, List.length_cons, List.length_cons, Nat.add_mul]
    omega
theorem join_any (w : World) (v : Value) (l : List Txt) (h : Own w 9 v l.length (strs l)) (hl : l.length ≤ 1000) (hx : ∀ x ∈ l, x.length ≤ 2000000) :
    Calls Tryd.prog 34 #[v, .string ⟨#[32]⟩] w fun e w' => e = .returned (.string ⟨(joinB l).toArray⟩) ∧ Kp [] w w' := by
  obtain ⟨A, c, rfl, hs, hc, -, hA⟩ := h.shape
  have hbl := joinB_len l hx
  by_cases h0 : l.length = 0
  · obtain rfl := List.length_eq_zero_iff.1 h0
    exact (Tryd.strings_Join_none A c ⟨#[32]⟩ w).mono fun e w' ⟨h1, h2⟩ => ⟨h1, by rw [h2]; exact Kp.refl _ _⟩
  · obtain ⟨ad, e, hcell⟩ := hs.get (j := 0) (by rw [length_strs]; omega)
    subst e
    obtain ⟨hb, -⟩ := hA ad rfl
    have e1 : (l.map fun x => (⟨x.toArray⟩ : ByteArray)).map (·.data.toList) = l := by rw [List.map_map]; exact List.map_id'' (fun _ => rfl) l
    have q := Tryd.strings_Join ad.block 0 c (l.map fun x => ⟨x.toArray⟩) ⟨#[32]⟩ w (fun j x hj => by
        rw [List.getElem?_map, Option.map_eq_some_iff] at hj
        obtain ⟨y, hy, rfl⟩ := hj
        obtain ⟨ad2, e2, h2⟩ := hs j (.string ⟨y.toArray⟩) (by unfold strs; rw [List.getElem?_map, hy]; rfl)
        injection e2 with e2
        rw [← e2, hb] at h2
        rcases Nat.eq_zero_or_pos j with hj0 | hj0
        · subst hj0; simpa [Addr.add] using h2
        · simpa [Addr.add, Nat.ne_of_gt hj0] using h2)
      (hs.old (by rw [length_strs]; omega) ad rfl) (by rw [List.length_map]; omega) (by rw [List.length_map]; exact hc) (by rw [e1]; show (Lib.join l [32]).length ≤ _; rw [join_is]; omega)
    rw [e1, List.length_map, ← hb] at q
    have e3 : Lib.join l (⟨#[32]⟩ : ByteArray).data.toList = joinB l := join_is l
    rw [e3] at q
    exact q.mono fun e w' ⟨h1, h2⟩ => ⟨h1, Kp.of_below h2⟩

theorem namesF_snoc (C : List Txt) (m k : Nat) (h : k < C.length) : namesF (C.take (k + 1)) m 0 = namesF (C.take k) m 0 ++ if m.testBit k then [C[k]] else [] := by
  rw [names_split (C.take (k + 1)) m 0 k, List.take_take, Nat.min_eq_left (by omega), Nat.zero_add]
  congr 1
  rw [List.take_add_one, List.getElem?_eq_getElem h, List.drop_append, List.drop_eq_nil_of_le (by rw [List.length_take]; omega), List.length_take, Nat.min_eq_left (by omega), Nat.sub_self]
  simp only [namesF, List.nil_append, Option.toList_some, List.drop_zero]
theorem namesF_count (C : List Txt) (m : Nat) : ∀ i, (namesF C m i).length ≤ C.length := by
  induction C with
  | nil => intro i; exact Nat.le_refl _
  | cons x r ih =>
    intro i
    unfold namesF
    split
    · simpa using ih (i + 1)
    · have := ih (i + 1); simp; omega
theorem bit_test (M k : Nat) : (((M &&& 2 ^ k : Nat) : Int) != 0) = M.testBit k := by
  rw [Bool.eq_iff_iff, bne_iff_ne]
  have h : M &&& 2 ^ k ≠ 0 ↔ M.testBit k = true := by
    constructor
    · intro h
      cases hb : M.testBit k with
      | true => rfl
      | false =>
        refine absurd (Nat.eq_of_testBit_eq fun j => ?_) h
        rw [Nat.testBit_and, Nat.testBit_two_pow, Nat.zero_testBit]
        by_cases hj : k = j
        · subst hj; rw [hb, Bool.false_and]
        · rw [decide_eq_false hj, Bool.and_false]
    · intro h e
      have h2 : (M &&& 2 ^ k).testBit k = true := by rw [Nat.testBit_and, h, Nat.testBit_two_pow]; simp
      rw [e, Nat.zero_testBit] at h2
      cases h2
  rw [← h]
  omega

set_option maxRecDepth 100000 in
set_option maxHeartbeats 6400000 in
theorem cnames_any (w : World) (A : Option Addr) (c : Nat) (C : List Txt) (hC : Strs w A c C) (h64 : C.length ≤ 64) (M : Nat) (hM : M < 2 ^ 64) :
    Calls Tryd.prog 17 #[.slice A C.length c, .int .u64 (M : Int)] w fun e w' => e = .returned (.string ⟨(joinB (namesL C M)).toArray⟩) ∧ Kp [] w w' := by
  obtain ⟨n, hn⟩ : ∃ n, n = C.length := ⟨_, rfl⟩
  have hcap := hC.cap
  have hcap2 := hC.cap2
  rw [← hn] at hcap h64 ⊢
  have Hn := hid hn
  clear hn
  go_enter Tryd.func17, Tryd.ntmps17
  go_wp2_with fail
  go_loopw [5, 10] (fun v i wr => ∃ k : Nat, k ≤ n ∧ i = .int .i64 (k : Int) ∧ Own wr 9 v (namesF (C.take k) M 0).length (strs (namesF (C.take k) M 0)) ∧ New w wr v) (fun _ i _ => n - (intOf i).toNat)
  case atStart => exact ⟨0, Nat.zero_le _, rfl, Own.nil _ _, New.nil (Kp.refl _ _)⟩
  case round =>
    obtain ⟨k, hk, rfl, ho, hnw⟩ := hrel
    obtain ⟨X, hX⟩ : ∃ X, X = namesF (C.take k) M 0 := ⟨_, rfl⟩
    have hXl : X.length ≤ k := by rw [hX]; have := namesF_count (C.take k) M 0; rw [List.length_take] at this; omega
    rw [← hX] at ho
    obtain ⟨m, hm⟩ : ∃ m, m = X.length := ⟨_, rfl⟩
    rw [← hm] at ho hXl
    by_cases hlt : k < n
    · have hkl : k < C.length := by rw [← Hn.out]; exact hlt
      obtain ⟨ad, hA, hcl, hx9⟩ := (hC.kept hnw.kp).at k hkl
      subst hA
      have hst := namesF_snoc C M k hkl
      rw [← hX] at hst
      obtain ⟨x, hx⟩ : ∃ x, x = C[k]'hkl := ⟨_, rfl⟩
      rw [← hx] at hcl hx9 hst
      have hb2 := bit_test M k
      have hsh := shl_one k (by omega)
      have hand := u64_and_nat M (2 ^ k) (by simpa using hM) (by have : 2 ^ k < 2 ^ 64 := Nat.pow_lt_pow_right (by decide) (by omega); simpa using this)
      obtain ⟨B, hB⟩ : ∃ B, B = 2 ^ k := ⟨_, rfl⟩
      rw [← hB] at hsh hand hb2
      obtain ⟨Y, hY⟩ : ∃ Y, Y = M &&& B := ⟨_, rfl⟩
      rw [← hY] at hand hb2
      obtain ⟨bo, hbo⟩ : ∃ b, b = M.testBit k := ⟨_, rfl⟩
      rw [← hbo] at hb2 hst
      have hk64 : (k : Int) ≤ 64 := by omega
      have HX := hid (And.intro hX hm)
      have Hst := hid hst
      clear hst hx hB hY hbo hX hm hM
      cases bo
      · go_wp2_with fail
        go_roundw
        case rel => exact ⟨k + 1, by omega, by go_num, by rw [Hst.out]; simpa [HX.out.2] using ho, hnw⟩
        case measure => simp [intOf]; omega
      · go_wp2_with (at_builtin; go_must (refine wpList_append1 rfl _ _ 22 rfl 9 (.string ⟨#[]⟩) 16 Tryd.underlying22 cinfoStr rfl _ _ _ rfl (ho.kept ((Kp.refl _ _).alloc _)) _ 1 1 [.string ⟨x.toArray⟩] rfl (Span.of_new wr _ _ _) rfl (cone_string _) ?_ ?_ ?_))
        · omega
        · omega
        intro v1 w1 ho1 hk1 hb1
        go_wp2_with fail
        go_roundw
        case rel => exact ⟨k + 1, by omega, by go_num, by rw [Hst.out]; simpa [HX.out.2, strs] using ho1, (hnw.kept ((Kp.refl _ _).alloc _)).append hk1 hb1 (by simp)⟩
        case measure => simp [intOf]; omega
    · have hkn : k = n := by omega
      have htk : C.take k = C := List.take_of_length_le (by rw [hkn, Hn.out]; exact Nat.le_refl _)
      rw [htk] at hX
      have hres : namesL C M = X := hX.symm
      rw [hm] at ho
      have q := join_any wr _ X ho (by omega) (fun x hx => hC.short x (names_sub x (by rw [hres]; exact hx)))
      have Hres := hid hres
      have Hkp := hid hnw.kp
      clear hX hm hres htk ho hnw
      go_wp2_with fail
      (with_reducible refine q.mono ?_)
      rintro e w2 ⟨rfl, k2⟩
      have Hk2 := hid k2
      clear k2
      go_wp2_with fail
      go_ret
      exact ⟨by rw [Hres.out]; rfl, Hkp.out.nil Hk2.out⟩

theorem cwithin_any (w : World) (a b : Nat) (ha : a < 2 ^ 64) (hb : b < 2 ^ 64) :
    Calls Tryd.prog 23 #[.int .u64 (a : Int), .int .u64 (b : Int)] w fun e w' => e = .returned (.bool (decide (a ||| b = b))) ∧ w' = w := by
  have hor := u64_or_nat a b (by simpa using ha) (by simpa using hb)
  obtain ⟨x, hx⟩ : ∃ x, x = a ||| b := ⟨_, rfl⟩
  rw [← hx] at hor ⊢
  have he : ((x : Int) == (b : Int)) = decide (x = b) := by rw [Bool.eq_iff_iff, beq_iff_eq, decide_eq_true_eq]; omega
  rw [← he]
  clear hx he ha hb
  go_enter Tryd.func23, Tryd.ntmps23
  go_wp2_with fail
  go_ret
  exact ⟨rfl, rfl⟩
theorem or_within (a b : Nat) (ha : a < 2 ^ 64) : (a &&& (18446744073709551615 - b) = 0) ↔ a ||| b = b ∨ ¬ b < 2 ^ 64 ∧ a &&& (18446744073709551615 - b) = 0 := by
  by_cases hb : b < 2 ^ 64
  · simp only [hb, not_true_eq_false, false_and, or_false]
    have e : ∀ j, (18446744073709551615 - b).testBit j = (decide (j < 64) && !b.testBit j) := by
      intro j
      have := Nat.testBit_two_pow_sub_succ (x := b) (n := 64) hb j
      rw [show 2 ^ 64 - (b + 1) = 18446744073709551615 - b by omega] at this
      exact this
    constructor
    · intro h
      apply Nat.eq_of_testBit_eq
      intro j
      have h2 := congrArg (fun x => x.testBit j) h
      simp only [Nat.testBit_and, e, Nat.zero_testBit] at h2
      rw [Nat.testBit_or]
      by_cases hj : j < 64
      · rw [decide_eq_true hj] at h2
        revert h2
        cases a.testBit j <;> cases b.testBit j <;> simp
      · have : a.testBit j = false := Nat.testBit_lt_two_pow (Nat.lt_of_lt_of_le ha (Nat.pow_le_pow_right (by decide) (by omega)))
        rw [this, Bool.false_or]
    · intro h
      apply Nat.eq_of_testBit_eq
      intro j
      have h2 := congrArg (fun x => x.testBit j) h
      simp only [Nat.testBit_or] at h2
      rw [Nat.testBit_and, e, Nat.zero_testBit]
      revert h2
      cases a.testBit j <;> cases b.testBit j <;> simp
  · simp only [hb, not_false_eq_true, true_and]
    constructor
    · exact .inr
    · rintro (h | h)
      · have h1 : a ||| b < 2 ^ 64 ∨ ¬ a ||| b < 2 ^ 64 := by omega
        have hb2 : 18446744073709551615 - b = 0 := by omega
        rw [hb2, Nat.and_zero]
      · exact h
theorem rwithin_any (w : World) (a b : Nat) (ha : a < 2 ^ 64) (hb : b < 2 ^ 64) :
    Calls Tryd.prog 24 #[.int .u64 (a : Int), .int .u64 (b : Int)] w fun e w' => e = .returned (.bool (decide (a ||| b = b))) ∧ w' = w := by
  have hor := u64_andNot_nat a b (by simpa using ha) (by simpa using hb)
  have hw := or_within a b ha
  obtain ⟨x, hx⟩ : ∃ x, x = a &&& (18446744073709551615 - b) := ⟨_, rfl⟩
  rw [← hx] at hor hw
  have he : ((x : Int) == 0) = decide (a ||| b = b) := by
    rw [Bool.eq_iff_iff, beq_iff_eq, decide_eq_true_eq]
    simp only [hb, not_true_eq_false, false_and, or_false] at hw
    rw [← hw]
    omega
  rw [← he]
  clear hx he ha hb hw
  go_enter Tryd.func24, Tryd.ntmps24
  go_wp2_with fail
  go_ret
  exact ⟨rfl, rfl⟩
end Go.Proofs.YtgjffkblhhkjmaaDoor
