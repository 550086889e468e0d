/- made of layer 1. -/
import Derived.Test.YtgjffkblhhkjmaaDoorDVal
import Derived.Test.YtgjffkblhhkjmaaDoorDBytes
import Derived.Test.YtgjffkblhhkjmaaDoorShelf
namespace Go.Proofs.YtgjffkblhhkjmaaDoor
open Go Go.RowKit

theorem trimLeft_dstr (l : List UInt8) (hl : Digs l) : Lib.trimLeftB l 48 = dstr (val l) := by
  rw [← dropZeros l hl]
  rfl
theorem suffix_dstr (n : Nat) : Lib.hasSuffix (dstr n) [48] = decide (n ≠ 0 ∧ n % 10 = 0) := by
  by_cases h : n = 0
  · subst h; rfl
  · rw [dstr_step h]
    have e : Lib.hasSuffix (dstr (n / 10) ++ [dg n]) [48] = decide (dg n = 48) := by
      unfold Lib.hasSuffix
      rw [Bool.eq_iff_iff, List.isSuffixOf_iff_suffix, decide_eq_true_iff]
      constructor
      · rintro ⟨t, ht⟩
        have := (List.append_inj' ht rfl).2
        injection this with this
        exact this.symm
      · intro h; rw [h]; exact ⟨_, rfl⟩
    rw [e, decide_eq_decide]
    constructor
    · intro h2
      have := congrArg UInt8.toNat h2
      rw [dg_toNat] at this
      have e48 : (48 : UInt8).toNat = 48 := rfl
      rw [e48] at this
      exact ⟨h, by omega⟩
    · rintro ⟨_, h2⟩
      apply UInt8.toNat_inj.1
      rw [dg_toNat, h2]
      rfl
theorem dstr_cut {n : Nat} (h : n ≠ 0) : (dstr n).take ((dstr n).length - 1) = dstr (n / 10) := by
  rw [dstr_step h, List.length_append, List.length_singleton, Nat.add_sub_cancel, List.take_left]
theorem redN_go {n s : Nat} (h : n ≠ 0 ∧ n % 10 = 0) : redN n (s + 1) = redN (n / 10) s := if_pos h
theorem redN_stop {n s : Nat} (h : ¬ (n ≠ 0 ∧ n % 10 = 0)) : redN n (s + 1) = (n, s + 1) := if_neg h
theorem norm_red {neg : Bool} {N S n s : Nat} (h : redN N S = (n, s)) : norm neg N S = if n = 0 then some ⟨false, 0, 0⟩ else if topN ≤ n ∨ 60 < s then none else some ⟨neg, n, s⟩ := by
  unfold norm
  rw [h]
  by_cases h0 : N = 0
  · subst h0
    have : n = 0 := by
      cases S with
      | zero => injection h with h _; exact h.symm
      | succ S => rw [redN_stop (by simp)] at h; injection h with h _; exact h.symm
    rw [if_pos rfl, if_pos this]
  · have := redN_ne (s := S) h0
    rw [h] at this
    rw [if_neg h0, if_neg this]
def MadePost (w : World) (o : Option Dc) (e : Ending) (w' : World) : Prop := e = .returned (resV o 3) ∧ Kp [] w w'
theorem made_zero {w w' : World} (k : Kp [] w w') {o : Option Dc} (h : o = some ⟨false, 0, 0⟩) : MadePost w o (.returned (.tuple #[.agg #[.bool false, .string ⟨#[48]⟩, .int .i64 0], .int .i64 0])) w' := by subst h; exact ⟨rfl, k⟩
theorem made_none {w w' : World} (k : Kp [] w w') {o : Option Dc} (h : o = none) : MadePost w o (.returned (.tuple #[.agg #[.bool false, .string ⟨#[]⟩, .int .i64 0], .int .i64 3])) w' := by subst h; exact ⟨rfl, k⟩
theorem made_some {w w' : World} (k : Kp [] w w') {o : Option Dc} {neg : Bool} {n s : Nat} (h0 : n ≠ 0) (h : o = some ⟨neg, n, s⟩) : MadePost w o (.returned (.tuple #[.agg #[.bool neg, .string ⟨(dstr n).toArray⟩, .int .i64 (s : Int)], .int .i64 0])) w' := by
  subst h
  refine ⟨?_, k⟩
  unfold resV decV decG dtxt
  simp only [if_neg h0]
set_option maxRecDepth 100000 in
set_option maxHeartbeats 6400000 in
theorem made_any (w : World) (neg : Bool) (l : List UInt8) (hl : Digs l) (hs : l.length ≤ 1000000) (S : Nat) (hS : S ≤ 1000000) :
    Calls Tryd.prog 79 #[.bool neg, .string ⟨l.toArray⟩, .int .i64 (S : Int)] w (MadePost w (norm neg (val l) S)) := by
  have htl := Tryd.strings_TrimLeft_one ⟨l.toArray⟩ 48 (by decide)
  simp only [trimLeft_dstr l hl] at htl
  have hlen : (dstr (val l)).length ≤ 1000000 := by
    rw [← dropZeros l hl]
    exact Nat.le_trans (List.dropWhile_suffix _).length_le hs
  obtain ⟨N, hN⟩ : ∃ N, N = val l := ⟨_, rfl⟩
  simp only [← hN] at htl hlen ⊢
  obtain ⟨O, hO⟩ : ∃ O, O = norm neg N S := ⟨_, rfl⟩
  rw [← hO]
  have HO := hid hO
  have h0 := hid hlen
  have hsuf := fun W n => Tryd.strings_HasSuffix ⟨(dstr n).toArray⟩ ⟨#[48]⟩ W
  have hsu : ∀ n, Lib.hasSuffix (⟨(dstr n).toArray⟩ : ByteArray).data.toList (⟨#[48]⟩ : ByteArray).data.toList = decide (n ≠ 0 ∧ n % 10 = 0) := fun n => suffix_dstr n
  simp only [hsu] at hsuf
  have Hsuf := hid hsuf
  clear hN hO hsuf hsu hlen hl hs
  go_enter Tryd.func79, Tryd.ntmps79
  go_wp2_with fail
  refine (htl _).mono ?_
  rintro e w1 ⟨rfl, rfl⟩
  clear htl
  go_wp2_with fail
  go_loopw [1, 2] (fun v vs wr => wr = w.alloc (.cells #[.bool false, .string ⟨#[]⟩, .int .i64 0] 47) ∧ ∃ n s : Nat, v = .string ⟨(dstr n).toArray⟩ ∧ vs = .int .i64 (s : Int) ∧ s ≤ S ∧ (dstr n).length ≤ 1000000 ∧ redN n s = redN N S) (fun _ vs _ => (intOf vs).toNat)
  case atStart => exact ⟨rfl, N, S, rfl, rfl, Nat.le_refl _, h0.out, rfl⟩
  case round =>
    obtain ⟨rfl, n, s, rfl, rfl, hs, hl, hr⟩ := hrel
    have hsz : (⟨(dstr n).toArray⟩ : ByteArray).size = (dstr n).length := size_mk _
    have hsf := fun W => Hsuf.out W n (by rw [hsz]; omega)
    have hnr := fun h => norm_red (neg := neg) (N := N) (S := S) (n := n) (s := s) h
    rw [← HO.out] at hnr
    rw [← hr] at hnr
    have Hr := hid hr
    clear hr
    by_cases hgo : 0 < s ∧ n ≠ 0 ∧ n % 10 = 0
    · obtain ⟨g1, g2, g3⟩ := hgo
      obtain ⟨t, rfl⟩ : ∃ t, s = t + 1 := ⟨s - 1, by omega⟩
      rw [decide_eq_true (And.intro g2 g3)] at hsf
      have hcut := dstr_cut g2
      obtain ⟨K, hK⟩ : ∃ K, (dstr n).length = K + 1 := ⟨(dstr n).length - 1, by
        have := length_dtxt n
        unfold dtxt at this
        rw [if_neg g2] at this
        omega⟩
      have hex := extract_mk (dstr n) 0 K
      rw [hK, Nat.add_sub_cancel] at hcut
      rw [List.drop_zero, hcut] at hex
      have hl2 : (dstr (n / 10)).length ≤ 1000000 := by rw [← hcut, List.length_take]; omega
      have Hr2 : Hid (redN (n / 10) t = redN N S) := by rw [← Hr.out, redN_go ⟨g2, g3⟩]; exact hid rfl
      rw [hK] at hsz hl
      have Hl2 := hid hl2
      clear hnr hcut hK hl2 Hr g2 g3
      obtain ⟨D, hD⟩ : ∃ D, D = dstr n := ⟨_, rfl⟩
      obtain ⟨D2, hD2⟩ : ∃ D2, D2 = dstr (n / 10) := ⟨_, rfl⟩
      simp only [← hD, ← hD2] at hsz hsf hex ⊢
      have HD2 := hid hD2
      clear hD hD2
      go_wp2_with fail
      refine (hsf _).mono ?_
      rintro e w2 ⟨rfl, rfl⟩
      go_wp2_with fail
      go_roundw
      case rel => exact ⟨trivial, n / 10, t, by rw [HD2.out], by go_num, by omega, Hl2.out, Hr2.out⟩
      case measure => simp [intOf]
    · have hend : redN n s = (n, s) := by
        cases s with
        | zero => rfl
        | succ t => exact redN_stop (fun h => hgo ⟨by omega, h⟩)
      have hO := hnr hend
      have hsfn : 0 < s → decide (n ≠ 0 ∧ n % 10 = 0) = false := fun h => decide_eq_false (fun h2 => hgo ⟨h, h2⟩)
      clear hnr hend Hr
      have hlen := length_dstr_iff (n := n) (k := 60)
      obtain ⟨D, hD⟩ : ∃ D, D = dstr n := ⟨_, rfl⟩
      simp only [← hD] at hsz hsf hl hlen ⊢
      have HD := hid hD
      rcases (show n = 0 ∨ (n ≠ 0 ∧ 60 < D.length) ∨ (n ≠ 0 ∧ D.length ≤ 60 ∧ 60 < s) ∨ (n ≠ 0 ∧ D.length ≤ 60 ∧ s ≤ 60) from by omega) with h | ⟨h, h1⟩ | ⟨h, h1, h2⟩ | ⟨h, h1, h2⟩
      · have hD0 : D = [] := by rw [HD.out, h]; rfl
        subst hD0
        have HO2 : Hid (O = some ⟨false, 0, 0⟩) := by rw [hO, if_pos h]; exact hid rfl
        clear hO hD
        rcases Nat.eq_zero_or_pos s with hs0 | hs0
        · subst hs0
          clear hsfn hsf
          go_wp2_with fail
          exact bodyPost_ret (v := .tuple #[.agg #[.bool false, .string ⟨#[48]⟩, .int .i64 0], .int .i64 0]) (by simp [results, Tryd.results79, go_sem]) rfl (made_zero ((Kp.refl _ _).alloc _) HO2.out)
        · rw [hsfn hs0] at hsf
          clear hsfn
          go_wp2_with fail
          refine (hsf _).mono ?_
          rintro e w2 ⟨rfl, rfl⟩
          go_wp2_with fail
          exact bodyPost_ret (v := .tuple #[.agg #[.bool false, .string ⟨#[48]⟩, .int .i64 0], .int .i64 0]) (by simp [results, Tryd.results79, go_sem]) rfl (made_zero ((Kp.refl _ _).alloc _) HO2.out)
      · have HO2 : Hid (O = none) := by rw [hO, if_neg h, if_pos (.inl (Nat.le_of_not_lt (fun hh => by have := hlen.2 hh; omega)))]; exact hid rfl
        have hD1 : D ≠ [] := by rw [hD]; intro e; exact h (dstr_nil.1 e)
        have hE : D.isEmpty = false := by cases D with | nil => exact absurd rfl hD1 | cons _ _ => rfl
        have hB : decide ((60 : Int) < (D.length : Int)) = true := decide_eq_true (by omega)
        clear hO hD hlen
        rcases Nat.eq_zero_or_pos s with hs0 | hs0
        · subst hs0
          clear hsfn hsf
          go_wp2_with fail
          exact bodyPost_ret (v := .tuple #[.agg #[.bool false, .string ⟨#[]⟩, .int .i64 0], .int .i64 3]) (by simp [results, Tryd.results79, go_sem]) rfl (made_none ((Kp.refl _ _).alloc _) HO2.out)
        · rw [hsfn hs0] at hsf
          clear hsfn
          go_wp2_with fail
          refine (hsf _).mono ?_
          rintro e w2 ⟨rfl, rfl⟩
          go_wp2_with fail
          exact bodyPost_ret (v := .tuple #[.agg #[.bool false, .string ⟨#[]⟩, .int .i64 0], .int .i64 3]) (by simp [results, Tryd.results79, go_sem]) rfl (made_none ((Kp.refl _ _).alloc _) HO2.out)
      · have HO2 : Hid (O = none) := by rw [hO, if_neg h, if_pos (.inr h2)]; exact hid rfl
        have hD1 : D ≠ [] := by rw [hD]; intro e; exact h (dstr_nil.1 e)
        have hE : D.isEmpty = false := by cases D with | nil => exact absurd rfl hD1 | cons _ _ => rfl
        have hB : decide ((60 : Int) < (D.length : Int)) = false := decide_eq_false (by omega)
        clear hO hD hlen
        rcases Nat.eq_zero_or_pos s with hs0 | hs0
        · omega
        · rw [hsfn hs0] at hsf
          clear hsfn
          go_wp2_with fail
          refine (hsf _).mono ?_
          rintro e w2 ⟨rfl, rfl⟩
          go_wp2_with fail
          exact bodyPost_ret (v := .tuple #[.agg #[.bool false, .string ⟨#[]⟩, .int .i64 0], .int .i64 3]) (by simp [results, Tryd.results79, go_sem]) rfl (made_none ((Kp.refl _ _).alloc _) HO2.out)
      · have hlt : n < 10 ^ 60 := hlen.1 h1
        have HO2 : Hid (O = some ⟨neg, n, s⟩) := by rw [hO, if_neg h, if_neg (by show ¬ (10 ^ 60 ≤ n ∨ 60 < s); omega)]; exact hid rfl
        have hD1 : D ≠ [] := by rw [hD]; intro e; exact h (dstr_nil.1 e)
        have hE : D.isEmpty = false := by cases D with | nil => exact absurd rfl hD1 | cons _ _ => rfl
        have hB : decide ((60 : Int) < (D.length : Int)) = false := decide_eq_false (by omega)
        clear hO hD hlen hlt
        rcases Nat.eq_zero_or_pos s with hs0 | hs0
        · subst hs0
          clear hsfn hsf
          go_wp2_with fail
          exact bodyPost_ret (v := .tuple #[.agg #[.bool neg, .string ⟨D.toArray⟩, .int .i64 0], .int .i64 0]) (by simp [results, Tryd.results79, go_sem]) rfl (by rw [HD.out]; exact made_some ((Kp.refl _ _).alloc _) h HO2.out)
        · rw [hsfn hs0] at hsf
          clear hsfn
          go_wp2_with fail
          refine (hsf _).mono ?_
          rintro e w2 ⟨rfl, rfl⟩
          go_wp2_with fail
          exact bodyPost_ret (v := .tuple #[.agg #[.bool neg, .string ⟨D.toArray⟩, .int .i64 (s : Int)], .int .i64 0]) (by simp [results, Tryd.results79, go_sem]) rfl (by rw [HD.out]; exact made_some ((Kp.refl _ _).alloc _) h HO2.out)
end Go.Proofs.YtgjffkblhhkjmaaDoor
