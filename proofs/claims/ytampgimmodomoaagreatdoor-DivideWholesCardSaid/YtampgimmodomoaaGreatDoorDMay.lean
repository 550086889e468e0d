/- May of layer 1. -/
import Derived.Test.YtampgimmodomoaaGreatDoorDReads
namespace Go.Proofs.YtampgimmodomoaaGreatDoor
open Go Go.RowKit Go.Lib

/-- Whether a decimal may be, as the code asks. -/
def mayL (neg : Bool) (L : List UInt8) (sc : Int) : Bool :=
  if L.length = 0 ∨ 60 < L.length ∨ sc < 0 ∨ 60 < sc ∨ rest L ≠ [] then false
  else if L = [48] then (decide (sc = 0) && !neg)
  else decide (L.getD 0 0 ≠ 48) && (decide (sc = 0) || decide (L.getD (L.length - 1) 0 ≠ 48))
theorem may_no {neg : Bool} {L : List UInt8} {sc : Int} (h : L.length = 0 ∨ 60 < L.length ∨ sc < 0 ∨ 60 < sc ∨ rest L ≠ []) : mayL neg L sc = false := if_pos h
theorem may_zero {neg : Bool} {sc : Int} (h : 0 ≤ sc ∧ sc ≤ 60) : mayL neg [48] sc = (decide (sc = 0) && !neg) := by
  unfold mayL
  rw [if_neg (by
    have : rest [48] = [] := by decide
    rw [this]; simp; omega), if_pos rfl]
theorem may_else {neg : Bool} {L : List UInt8} {sc : Int} (h : ¬ (L.length = 0 ∨ 60 < L.length ∨ sc < 0 ∨ 60 < sc ∨ rest L ≠ [])) (h2 : L ≠ [48]) :
    mayL neg L sc = (decide (L.getD 0 0 ≠ 48) && (decide (sc = 0) || decide (L.getD (L.length - 1) 0 ≠ 48))) := by
  unfold mayL
  rw [if_neg h, if_neg h2]
/-- The decimals that may be are just those in their one form. -/
theorem may_iff (neg : Bool) (L : List UInt8) (sc : Int) : mayL neg L sc = true ↔ ∃ d, Ok d ∧ neg = d.neg ∧ L = dtxt d.n ∧ sc = (d.s : Int) := by
  constructor
  · intro hm
    by_cases h : L.length = 0 ∨ 60 < L.length ∨ sc < 0 ∨ 60 < sc ∨ rest L ≠ []
    · rw [may_no h] at hm; cases hm
    · have hr : rest L = [] := by
        by_cases hr : rest L = []
        · exact hr
        · exact absurd (.inr (.inr (.inr (.inr hr)))) h
      have hL : lead L = L := by have := lead_rest L; rwa [hr, List.append_nil] at this
      have hd : Digs L := by rw [← hL]; exact digs_lead L
      by_cases h2 : L = [48]
      · subst h2
        rw [may_zero (by omega)] at hm
        simp only [Bool.and_eq_true, decide_eq_true_eq, Bool.not_eq_true'] at hm
        refine ⟨⟨false, 0, 0⟩, ok_zero, hm.2, rfl, by rw [hm.1]; rfl⟩
      · rw [may_else h h2] at hm
        simp only [Bool.and_eq_true, Bool.or_eq_true, decide_eq_true_eq] at hm
        obtain ⟨m1, m2⟩ := hm
        have hne : L ≠ [] := by intro e; rw [e] at h; simp at h
        have hdv : dstr (val L) = L := dstr_val hd (fun c t e => by rw [e] at m1; exact m1)
        have hv0 : val L ≠ 0 := by intro e; rw [e] at hdv; exact hne hdv.symm
        have hlt : val L < 10 ^ 60 := Nat.lt_of_lt_of_le (val_lt L hd) (Nat.pow_le_pow_right (by decide) (by omega))
        refine ⟨⟨neg, val L, sc.toNat⟩, ⟨hlt, by show sc.toNat ≤ 60; omega, fun e => absurd e hv0, ?_⟩, rfl, ?_, by show sc = (sc.toNat : Int); omega⟩
        · rcases m2 with m2 | m2
          · exact .inl (by show sc.toNat = 0; omega)
          · right
            show val L % 10 ≠ 0
            intro e
            have hst := dstr_step hv0
            rw [hdv] at hst
            apply m2
            rw [hst, List.length_append, List.length_singleton, Nat.add_sub_cancel, List.getD_eq_getElem?_getD, List.getElem?_append_right (Nat.le_refl _), Nat.sub_self]
            show dg (val L) = 48
            apply UInt8.toNat_inj.1
            rw [dg_toNat, e]
            rfl
        · show L = dtxt (val L)
          unfold dtxt
          rw [if_neg hv0, hdv]
  · rintro ⟨d, hd, rfl, rfl, rfl⟩
    obtain ⟨h1, h2, h3, h4⟩ := hd
    have hl := length_dtxt_le (k := 60) h1 (by decide)
    have hl1 := length_dtxt d.n
    have hr : rest (dtxt d.n) = [] := (lead_all (digs_dtxt _)).2
    by_cases h0 : d.n = 0
    · have e : dtxt d.n = [48] := by rw [h0]; rfl
      rw [e, may_zero (by omega), (h3 h0).1, (h3 h0).2]
      rfl
    · have e : dtxt d.n = dstr d.n := by unfold dtxt; rw [if_neg h0]
      obtain ⟨c, t, e2, hc⟩ := dstr_head d.n h0
      rw [may_else (by rintro (h | h | h | h | h); omega; omega; omega; omega; exact h hr) (by
        rw [e, e2]; intro h; injection h with h _; exact hc h)]
      simp only [Bool.and_eq_true, Bool.or_eq_true, decide_eq_true_eq]
      refine ⟨by rw [e, e2]; exact hc, ?_⟩
      rcases h4 with h4 | h4
      · exact .inl (by rw [h4]; rfl)
      · right
        rw [e, dstr_step h0, List.length_append, List.length_singleton, Nat.add_sub_cancel, List.getD_eq_getElem?_getD, List.getElem?_append_right (Nat.le_refl _), Nat.sub_self]
        show dg d.n ≠ 48
        intro e3
        have := congrArg UInt8.toNat e3
        rw [dg_toNat] at this
        have e48 : (48 : UInt8).toNat = 48 := rfl
        omega
theorem byte_ne (c : UInt8) (k : UInt8) : decide (c ≠ k) = !decide (c.toNat = k.toNat) := by
  by_cases h : c = k
  · subst h; simp
  · have h2 : c.toNat ≠ k.toNat := fun e => h (UInt8.toNat_inj.1 e)
    rw [decide_eq_true h, decide_eq_false h2]
    rfl
end Go.Proofs.YtampgimmodomoaaGreatDoor
