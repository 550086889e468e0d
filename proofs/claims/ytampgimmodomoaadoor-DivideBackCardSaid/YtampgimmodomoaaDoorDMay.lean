/- May of layer 1. -/
import Derived.Test.YtampgimmodomoaaDoorDReads
namespace Go.Proofs.YtampgimmodomoaaDoor
open Go Go.RowKit Go.Lib

/-- Whether a decimal may be, as the code asks. -/
def mayL (neg : Bool) (L : List UInt8) (sc : Int) : Bool :=
  if L.length = 0 ∨ 60 < L.length ∨ sc < 0 ∨ 60 < sc ∨ rest L ≠ [] then false
  else if L = [48] then (decide (sc = 0) && !neg)
  else decide (L.getD 0 0 ≠ 48) && (decide (sc = 0) || decide (L.getD (L.length - 1) 0 ≠ 48))
theorem may_no {neg : Bool} {L : List UInt8} {sc : Int} (h : L.length = 0 ∨ 60 < L.length ∨ sc < 0 ∨ 60 < sc ∨ rest L ≠ []) : mayL neg L sc = false := if_pos h
theorem may_zero {neg : Bool} {sc : Int} (h : 0 ≤ sc ∧ sc ≤ 60) : mayL neg [48] sc = (decide (sc = 0) && !neg) := by
  unfold mayL
  rw [if_neg (by
    have : rest [48] = [] := by decide
    rw [this]; simp; omega), if_pos rfl]
theorem may_else {neg : Bool} {L : List UInt8} {sc : Int} (h : ¬ (L.length = 0 ∨ 60 < L.length ∨ sc < 0 ∨ 60 < sc ∨ rest L ≠ [])) (h2 : L ≠ [48]) :
    mayL neg L sc = (decide (L.getD 0 0 ≠ 48) && (decide (sc = 0) || decide (L.getD (L.length - 1) 0 ≠ 48))) := by
  unfold mayL
  rw [if_neg h, if_neg h2]
/-- The decimals that may be are just those in their one form. -/
theorem may_iff (neg : Bool) (L : List UInt8) (sc : Int) : mayL neg L sc = true ↔ ∃ d, Ok d ∧ neg = d.neg ∧ L = dtxt d.n ∧ sc = (d.s : Int) := by
  constructor
  · intro hm
    by_cases h : L.length = 0 ∨ 60 < L.length ∨ sc < 0 ∨ 60 < sc ∨ rest L ≠ []
    · rw [may_no h] at hm; cases hm
    · have hr : rest L = [] := by
        by_cases hr : rest L = []
        · exact hr
        · exact absurd (.inr (.inr (.inr (.inr hr)))) h
      have hL : lead L = L := by have := lead_rest L; rwa [hr, List.append_nil] at this
      have hd : Digs L := by rw [← hL]; exact digs_lead L
      by_cases h2 : L = [48]
      · subst h2
        rw [may_zero (by omega)] at hm
        simp only [Bool.and_eq_true, decide_eq_true_eq, Bool.not_eq_true'] at hm
        refine ⟨⟨false, 0, 0⟩, ok_zero, hm.2, rfl, by rw [hm.1]; rfl⟩
      · rw [may_else h h2] at hm
        simp only [Bool.and_eq_true, Bool.or_eq_true, decide_eq_true_eq] at hm
        obtain ⟨m1, m2⟩ := hm
        have hne : L ≠ [] := by intro e; rw [e] at h; simp at h
        have hdv : dstr (val L) = L := dstr_val hd (fun c t e => by rw [e] at m1; exact m1)
        have hv0 : val L ≠ 0 := by intro e; rw [e] at hdv; exact hne hdv.symm
        have hlt : val L < 10 ^ 60 := Nat.lt_of_lt_of_le (val_lt L hd) (Nat.pow_le_pow_right (by decide) (by omega))
        refine ⟨⟨neg, val L, sc.toNat⟩, ⟨hlt, by show sc.toNat ≤ 60; omega, fun e => absurd e hv0, ?_⟩, rfl, ?_, by show sc = (sc.toNat : Int); omega⟩
        · rcases m2 with m2 | m2
          · exact .inl (by show sc.toNat = 0; omega)
          · right
            show val L % 10 ≠ 0
            intro e
            have hst := dstr_step hv0
            rw [hdv] at hst
            apply m2
            rw [hst, List.length_append, List.length_singleton, Nat.add_sub_cancel, List.getD_eq_getElem?_getD, List.getElem?_append_right (Nat.le_refl _), Nat.sub_self]
            show dg (val L) = 48
            apply UInt8.toNat_inj.1
            rw [dg_toNat, e]
            rfl
        · show L = dtxt (val L)
          unfold dtxt
          rw [if_neg hv0, hdv]
  · rintro ⟨d, hd, rfl, rfl, rfl⟩
    obtain ⟨h1, h2, h3, h4⟩ := hd
    have hl := length_dtxt_le (k := 60) h1 (by decide)
    have hl1 := length_dtxt d.n
    have hr : rest (dtxt d.n) = [] := (lead_all (digs_dtxt _)).2
    by_cases h0 : d.n = 0
    · have e : dtxt d.n = [48] := by rw [h0]; rfl
      rw [e, may_zero (by omega), (h3 h0).1, (h3 h0).2]
      rfl
    · have e : dtxt d.n = dstr d.n := by unfold dtxt; rw [if_neg h0]
      obtain ⟨c, t, e2, hc⟩ := dstr_head d.n h0
      rw [may_else (by rintro (h | h | h | h | h); omega; omega; omega; omega; exact h hr) (by
        rw [e, e2]; intro h; injection h with h _; exact hc h)]
      simp only [Bool.and_eq_true, Bool.or_eq_true, decide_eq_true_eq]
      refine ⟨by rw [e, e2]; exact hc, ?_⟩
      rcases h4 with h4 | h4
      · exact .inl (by rw [h4]; rfl)
      · right
        rw [e, dstr_step h0, List.length_append, List.length_singleton, Nat.add_sub_cancel, List.getD_eq_getElem?_getD, List.getElem?_append_right (Nat.le_refl _), Nat.sub_self]
        show dg d.n ≠ 48
        intro e3
        have := congrArg UInt8.toNat e3
        rw [dg_toNat] at this
        have e48 : (48 : UInt8).toNat = 48 := rfl
        omega
theorem byte_ne (c : UInt8) (k : UInt8) : decide (c ≠ k) = !decide (c.toNat = k.toNat) := by
  by_cases h : c = k
  · subst h; simp
  · have h2 : c.toNat ≠ k.toNat := fun e => h (UInt8.toNat_inj.1 e)
    rw [decide_eq_true h, decide_eq_false h2]
    rfl
set_option maxRecDepth 100000 in
set_option maxHeartbeats 6400000 in
theorem may_any (w : World) (neg : Bool) (L : List UInt8) (sc : Int) (hL : L.length ≤ 9223372036854775807) (hsc : -9223372036854775808 ≤ sc ∧ sc ≤ 9223372036854775807) :
    Calls Tryd.prog 19 #[.agg #[.bool neg, .string ⟨L.toArray⟩, .int .i64 sc]] w fun e w' => e = .returned (.bool (mayL neg L sc)) ∧ Kp [] w w' := by
  have qF := fun W => contF_any W L
  have hsz : (⟨L.toArray⟩ : ByteArray).size = L.length := size_mk _
  have HK := hid ((Kp.refl [] w).alloc (.cells #[.bool neg, .string ⟨L.toArray⟩, .int .i64 sc] 23))
  have HC := hid (Cells.fresh w 23 [.bool neg, .string ⟨L.toArray⟩, .int .i64 sc])
  by_cases c1 : L.length = 0
  · have HR := hid (may_no (neg := neg) (L := L) (sc := sc) (.inl c1))
    have f1 : ((L.length : Int) == 0) = true := by rw [beq_iff_eq]; omega
    clear qF
    go_enter Tryd.func19, Tryd.ntmps19
    go_wp2_with fail
    go_ret
    exact ⟨by rw [HR.out]; rfl, HK.out⟩
  have f1 : ((L.length : Int) == 0) = false := by rw [beq_eq_false_iff_ne]; omega
  by_cases c2 : 60 < L.length
  · have HR := hid (may_no (neg := neg) (L := L) (sc := sc) (.inr (.inl c2)))
    clear qF
    go_enter Tryd.func19, Tryd.ntmps19
    go_wp2_with fail
    go_ret
    exact ⟨by rw [HR.out]; rfl, HK.out⟩
  by_cases c3 : sc < 0
  · have HR := hid (may_no (neg := neg) (L := L) (sc := sc) (.inr (.inr (.inl c3))))
    clear qF
    go_enter Tryd.func19, Tryd.ntmps19
    go_wp2_with fail
    go_ret
    exact ⟨by rw [HR.out]; rfl, HK.out⟩
  by_cases c4 : 60 < sc
  · have HR := hid (may_no (neg := neg) (L := L) (sc := sc) (.inr (.inr (.inr (.inl c4)))))
    clear qF
    go_enter Tryd.func19, Tryd.ntmps19
    go_wp2_with fail
    go_ret
    exact ⟨by rw [HR.out]; rfl, HK.out⟩
  by_cases c5 : rest L ≠ []
  · have HR := hid (may_no (neg := neg) (L := L) (sc := sc) (.inr (.inr (.inr (.inr c5)))))
    rw [decide_eq_true c5] at qF
    clear c5
    go_enter Tryd.func19, Tryd.ntmps19
    go_wp2_with fail
    refine (qF _).mono ?_
    rintro e w5 ⟨rfl, k5⟩
    go_wp2_with fail
    go_ret
    exact ⟨by rw [HR.out]; rfl, HK.out.nil k5⟩
  rw [decide_eq_false c5] at qF
  have hnot : ¬ (L.length = 0 ∨ 60 < L.length ∨ sc < 0 ∨ 60 < sc ∨ rest L ≠ []) := by
    rintro (h | h | h | h | h); exact c1 h; exact c2 h; exact c3 h; exact c4 h; exact c5 h
  clear c5
  by_cases c6 : L = [48]
  · subst c6
    have HR := hid (may_zero (neg := neg) (sc := sc) (by omega))
    clear hnot
    by_cases c7 : sc = 0
    · subst c7
      go_enter Tryd.func19, Tryd.ntmps19
      go_wp2_with fail
      refine (qF _).mono ?_
      rintro e w5 ⟨rfl, k5⟩
      have y0 := k5.cell (HC.out.cell 0) (by simp)
      have y1 := k5.cell (HC.out.cell 1) (by simp)
      have y2 := k5.cell (HC.out.cell 2) (by simp)
      cases neg
      all_goals
        go_wp2_with fail
        go_ret
        exact ⟨by rw [HR.out]; rfl, HK.out.nil k5⟩
    · have f7 : (sc == 0) = false := beq_eq_false_iff_ne.2 c7
      rw [decide_eq_false c7] at HR
      clear c7
      go_enter Tryd.func19, Tryd.ntmps19
      go_wp2_with fail
      refine (qF _).mono ?_
      rintro e w5 ⟨rfl, k5⟩
      have y0 := k5.cell (HC.out.cell 0) (by simp)
      have y1 := k5.cell (HC.out.cell 1) (by simp)
      have y2 := k5.cell (HC.out.cell 2) (by simp)
      go_wp2_with fail
      go_ret
      exact ⟨by rw [HR.out]; rfl, HK.out.nil k5⟩
  · have f6 : (L == [48]) = false := beq_eq_false_iff_ne.2 c6
    obtain ⟨k, hk⟩ : ∃ k, L.length = k + 1 := ⟨L.length - 1, by omega⟩
    have hR := may_else (neg := neg) hnot c6
    have h0 : 0 < L.length := by omega
    have hkl : k < L.length := by omega
    obtain ⟨m, hm⟩ : ∃ m, m = (L[0]'h0).toNat := ⟨_, rfl⟩
    obtain ⟨q, hq⟩ : ∃ q, q = (L[k]'hkl).toNat := ⟨_, rfl⟩
    have i0 : ∀ g : 0 < (⟨L.toArray⟩ : ByteArray).size, ((⟨L.toArray⟩ : ByteArray)[0]'g).toNat = m := fun g => by rw [hm]; rfl
    have ik : ∀ g : k < (⟨L.toArray⟩ : ByteArray).size, ((⟨L.toArray⟩ : ByteArray)[k]'g).toNat = q := fun g => by rw [hq]; rfl
    have hm2 : m < 256 := by rw [hm]; exact (L[0]'h0).toNat_lt
    have hq2 : q < 256 := by rw [hq]; exact (L[k]'hkl).toNat_lt
    have e0 : decide (L.getD 0 0 ≠ 48) = !decide (m = 48) := by
      rw [List.getD_eq_getElem?_getD, List.getElem?_eq_getElem h0, hm]
      exact byte_ne _ 48
    have ek : decide (L.getD (L.length - 1) 0 ≠ 48) = !decide (q = 48) := by
      rw [hk, Nat.add_sub_cancel, List.getD_eq_getElem?_getD, List.getElem?_eq_getElem hkl, hq]
      exact byte_ne _ 48
    rw [e0, ek] at hR
    have HR := hid hR
    have hk60 : k < 60 := by omega
    rw [hk] at hsz
    clear f1
    have f1 : ((k : Int) + 1 == 0) = false := by rw [beq_eq_false_iff_ne]; omega
    clear hnot hR e0 ek h0 hkl hm hq
    rw [hk] at c1 c2 hL
    clear hk
    go_enter Tryd.func19, Tryd.ntmps19
    go_wp2_with fail
    refine (qF _).mono ?_
    rintro e w5 ⟨rfl, k5⟩
    have y0 := k5.cell (HC.out.cell 0) (by simp)
    have y1 := k5.cell (HC.out.cell 1) (by simp)
    have y2 := k5.cell (HC.out.cell 2) (by simp)
    by_cases h1 : m = 48
    · rw [decide_eq_true h1] at HR
      subst h1
      go_wp2_with fail
      go_ret
      exact ⟨by rw [HR.out]; rfl, HK.out.nil k5⟩
    · have b1 : ((m : Int) != 48) = true := by rw [bne_iff_ne]; omega
      have b1' : ¬ (m : Int) = 48 := by omega
      rw [decide_eq_false h1] at HR
      by_cases h2 : sc = 0
      · subst h2
        go_wp2_with fail
        go_ret
        exact ⟨by rw [HR.out]; rfl, HK.out.nil k5⟩
      · have b2 : (sc == 0) = false := beq_eq_false_iff_ne.2 h2
        rw [decide_eq_false h2] at HR
        by_cases h3 : q = 48
        · rw [decide_eq_true h3] at HR
          subst h3
          go_wp2_with fail
          go_ret
          exact ⟨by rw [HR.out]; rfl, HK.out.nil k5⟩
        · have b3 : ((q : Int) != 48) = true := by rw [bne_iff_ne]; omega
          have b3' : ¬ (q : Int) = 48 := by omega
          rw [decide_eq_false h3] at HR
          go_wp2_with fail
          go_ret
          exact ⟨by rw [HR.out]; rfl, HK.out.nil k5⟩
end Go.Proofs.YtampgimmodomoaaDoor
