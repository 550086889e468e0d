/- made of layer 1. -/
import Derived.Test.YtampgimmodomoaaDoorDVals
import Derived.Test.YtampgimmodomoaaDoorDGround
import Derived.Test.YtampgimmodomoaaDoorShelf
import Derived.Lib.ValidLaws
import Derived.BigQuiet
import Derived.Deep.QuietTactic
import Derived.Lib.OthersKept
namespace Go.Proofs.YtampgimmodomoaaDoor
open Go Go.RowKit

theorem trimLeft_dstr (l : List UInt8) (hl : Digs l) : Lib.trimLeftB l 48 = dstr (val l) := by
  rw [← dropZeros l hl]
  rfl
theorem suffix_dstr (n : Nat) : Lib.hasSuffix (dstr n) [48] = decide (n ≠ 0 ∧ n % 10 = 0) := by
  by_cases h : n = 0
  · subst h; rfl
  · rw [dstr_step h]
    have e : Lib.hasSuffix (dstr (n / 10) ++ [dg n]) [48] = decide (dg n = 48) := by
      unfold Lib.hasSuffix
      rw [Bool.eq_iff_iff, List.isSuffixOf_iff_suffix, decide_eq_true_iff]
      constructor
      · rintro ⟨t, ht⟩
        have := (List.append_inj' ht rfl).2
        injection this with this
        exact this.symm
      · intro h; rw [h]; exact ⟨_, rfl⟩
    rw [e, decide_eq_decide]
    constructor
    · intro h2
      have := congrArg UInt8.toNat h2
      rw [dg_toNat] at this
      have e48 : (48 : UInt8).toNat = 48 := rfl
      rw [e48] at this
      exact ⟨h, by omega⟩
    · rintro ⟨_, h2⟩
      apply UInt8.toNat_inj.1
      rw [dg_toNat, h2]
      rfl
theorem dstr_cut {n : Nat} (h : n ≠ 0) : (dstr n).take ((dstr n).length - 1) = dstr (n / 10) := by
  rw [dstr_step h, List.length_append, List.length_singleton, Nat.add_sub_cancel, List.take_left]
theorem redN_go {n s : Nat} (h : n ≠ 0 ∧ n % 10 = 0) : redN n (s + 1) = redN (n / 10) s := if_pos h
theorem redN_stop {n s : Nat} (h : ¬ (n ≠ 0 ∧ n % 10 = 0)) : redN n (s + 1) = (n, s + 1) := if_neg h
theorem norm_red {neg : Bool} {N S n s : Nat} (h : redN N S = (n, s)) : norm neg N S = if n = 0 then some ⟨false, 0, 0⟩ else if topN ≤ n ∨ 60 < s then none else some ⟨neg, n, s⟩ := by
  unfold norm
  rw [h]
  by_cases h0 : N = 0
  · subst h0
    have : n = 0 := by
      cases S with
      | zero => injection h with h _; exact h.symm
      | succ S => rw [redN_stop (by simp)] at h; injection h with h _; exact h.symm
    rw [if_pos rfl, if_pos this]
  · have := redN_ne (s := S) h0
    rw [h] at this
    rw [if_neg h0, if_neg this]
def MadePost (w : World) (o : Option Dc) (e : Ending) (w' : World) : Prop := e = .returned (resV o 3) ∧ Kp [] w w'
theorem made_zero {w w' : World} (k : Kp [] w w') {o : Option Dc} (h : o = some ⟨false, 0, 0⟩) : MadePost w o (.returned (.tuple #[.agg #[.bool false, .string ⟨#[48]⟩, .int .i64 0], .int .i64 0])) w' := by subst h; exact ⟨rfl, k⟩
theorem made_none {w w' : World} (k : Kp [] w w') {o : Option Dc} (h : o = none) : MadePost w o (.returned (.tuple #[.agg #[.bool false, .string ⟨#[]⟩, .int .i64 0], .int .i64 3])) w' := by subst h; exact ⟨rfl, k⟩
theorem made_some {w w' : World} (k : Kp [] w w') {o : Option Dc} {neg : Bool} {n s : Nat} (h0 : n ≠ 0) (h : o = some ⟨neg, n, s⟩) : MadePost w o (.returned (.tuple #[.agg #[.bool neg, .string ⟨(dstr n).toArray⟩, .int .i64 (s : Int)], .int .i64 0])) w' := by
  subst h
  refine ⟨?_, k⟩
  unfold resV decV decG dtxt
  simp only [if_neg h0]
set_option maxRecDepth 100000 in
set_option maxHeartbeats 6400000 in
theorem made_any (w : World) (neg : Bool) (l : List UInt8) (hl : Digs l) (hs : l.length ≤ 1000000) (S : Nat) (hS : S ≤ 1000000) :
    Calls Tryd.prog 52 #[.bool neg, .string ⟨l.toArray⟩, .int .i64 (S : Int)] w (MadePost w (norm neg (val l) S)) := by
  have htl := Tryd.strings_TrimLeft_one ⟨l.toArray⟩ 48 (by decide)
  simp only [trimLeft_dstr l hl] at htl
  have hlen : (dstr (val l)).length ≤ 1000000 := by
    rw [← dropZeros l hl]
    exact Nat.le_trans (List.dropWhile_suffix _).length_le hs
  obtain ⟨N, hN⟩ : ∃ N, N = val l := ⟨_, rfl⟩
  simp only [← hN] at htl hlen ⊢
  obtain ⟨O, hO⟩ : ∃ O, O = norm neg N S := ⟨_, rfl⟩
  rw [← hO]
  have HO := hid hO
  have h0 := hid hlen
  have hsuf := fun W n => Tryd.strings_HasSuffix ⟨(dstr n).toArray⟩ ⟨#[48]⟩ W
  have hsu : ∀ n, Lib.hasSuffix (⟨(dstr n).toArray⟩ : ByteArray).data.toList (⟨#[48]⟩ : ByteArray).data.toList = decide (n ≠ 0 ∧ n % 10 = 0) := fun n => suffix_dstr n
  simp only [hsu] at hsuf
  have Hsuf := hid hsuf
  clear hN hO hsuf hsu hlen hl hs
  go_enter Tryd.func52, Tryd.ntmps52
  go_wp2_with fail
  refine (htl _).mono ?_
  rintro e w1 ⟨rfl, rfl⟩
  clear htl
  go_wp2_with fail
  go_loopw [1, 2] (fun v vs wr => wr = w.alloc (.cells #[.bool false, .string ⟨#[]⟩, .int .i64 0] 23) ∧ ∃ n s : Nat, v = .string ⟨(dstr n).toArray⟩ ∧ vs = .int .i64 (s : Int) ∧ s ≤ S ∧ (dstr n).length ≤ 1000000 ∧ redN n s = redN N S) (fun _ vs _ => (intOf vs).toNat)
  case atStart => exact ⟨rfl, N, S, rfl, rfl, Nat.le_refl _, h0.out, rfl⟩
  case round =>
    obtain ⟨rfl, n, s, rfl, rfl, hs, hl, hr⟩ := hrel
    have hsz : (⟨(dstr n).toArray⟩ : ByteArray).size = (dstr n).length := size_mk _
    have hsf := fun W => Hsuf.out W n (by rw [hsz]; omega)
    have hnr := fun h => norm_red (neg := neg) (N := N) (S := S) (n := n) (s := s) h
    rw [← HO.out] at hnr
    rw [← hr] at hnr
    have Hr := hid hr
    clear hr
    by_cases hgo : 0 < s ∧ n ≠ 0 ∧ n % 10 = 0
    · obtain ⟨g1, g2, g3⟩ := hgo
      obtain ⟨t, rfl⟩ : ∃ t, s = t + 1 := ⟨s - 1, by omega⟩
      rw [decide_eq_true (And.intro g2 g3)] at hsf
      have hcut := dstr_cut g2
      obtain ⟨K, hK⟩ : ∃ K, (dstr n).length = K + 1 := ⟨(dstr n).length - 1, by
        have := length_dtxt n
        unfold dtxt at this
        rw [if_neg g2] at this
        omega⟩
      have hex := extract_mk (dstr n) 0 K
      rw [hK, Nat.add_sub_cancel] at hcut
      rw [List.drop_zero, hcut] at hex
      have hl2 : (dstr (n / 10)).length ≤ 1000000 := by rw [← hcut, List.length_take]; omega
      have Hr2 : Hid (redN (n / 10) t = redN N S) := by rw [← Hr.out, redN_go ⟨g2, g3⟩]; exact hid rfl
      rw [hK] at hsz hl
      have Hl2 := hid hl2
      clear hnr hcut hK hl2 Hr g2 g3
      obtain ⟨D, hD⟩ : ∃ D, D = dstr n := ⟨_, rfl⟩
      obtain ⟨D2, hD2⟩ : ∃ D2, D2 = dstr (n / 10) := ⟨_, rfl⟩
      simp only [← hD, ← hD2] at hsz hsf hex ⊢
      have HD2 := hid hD2
      clear hD hD2
      go_wp2_with fail
      refine (hsf _).mono ?_
      rintro e w2 ⟨rfl, rfl⟩
      go_wp2_with fail
      go_roundw
      case rel => exact ⟨trivial, n / 10, t, by rw [HD2.out], by go_num, by omega, Hl2.out, Hr2.out⟩
      case measure => simp [intOf]
    · have hend : redN n s = (n, s) := by
        cases s with
        | zero => rfl
        | succ t => exact redN_stop (fun h => hgo ⟨by omega, h⟩)
      have hO := hnr hend
      have hsfn : 0 < s → decide (n ≠ 0 ∧ n % 10 = 0) = false := fun h => decide_eq_false (fun h2 => hgo ⟨h, h2⟩)
      clear hnr hend Hr
      have hlen := length_dstr_iff (n := n) (k := 60)
      obtain ⟨D, hD⟩ : ∃ D, D = dstr n := ⟨_, rfl⟩
      simp only [← hD] at hsz hsf hl hlen ⊢
      have HD := hid hD
      rcases (show n = 0 ∨ (n ≠ 0 ∧ 60 < D.length) ∨ (n ≠ 0 ∧ D.length ≤ 60 ∧ 60 < s) ∨ (n ≠ 0 ∧ D.length ≤ 60 ∧ s ≤ 60) from by omega) with h | ⟨h, h1⟩ | ⟨h, h1, h2⟩ | ⟨h, h1, h2⟩
      · have hD0 : D = [] := by rw [HD.out, h]; rfl
        subst hD0
        have HO2 : Hid (O = some ⟨false, 0, 0⟩) := by rw [hO, if_pos h]; exact hid rfl
        clear hO hD
        rcases Nat.eq_zero_or_pos s with hs0 | hs0
        · subst hs0
          clear hsfn hsf
          go_wp2_with fail
          exact bodyPost_ret (v := .tuple #[.agg #[.bool false, .string ⟨#[48]⟩, .int .i64 0], .int .i64 0]) (by simp [results, Tryd.results52, go_sem]) rfl (made_zero ((Kp.refl _ _).alloc _) HO2.out)
        · rw [hsfn hs0] at hsf
          clear hsfn
          go_wp2_with fail
          refine (hsf _).mono ?_
          rintro e w2 ⟨rfl, rfl⟩
          go_wp2_with fail
          exact bodyPost_ret (v := .tuple #[.agg #[.bool false, .string ⟨#[48]⟩, .int .i64 0], .int .i64 0]) (by simp [results, Tryd.results52, go_sem]) rfl (made_zero ((Kp.refl _ _).alloc _) HO2.out)
      · have HO2 : Hid (O = none) := by rw [hO, if_neg h, if_pos (.inl (Nat.le_of_not_lt (fun hh => by have := hlen.2 hh; omega)))]; exact hid rfl
        have hD1 : D ≠ [] := by rw [hD]; intro e; exact h (dstr_nil.1 e)
        have hE : D.isEmpty = false := by cases D with | nil => exact absurd rfl hD1 | cons _ _ => rfl
        have hB : decide ((60 : Int) < (D.length : Int)) = true := decide_eq_true (by omega)
        clear hO hD hlen
        rcases Nat.eq_zero_or_pos s with hs0 | hs0
        · subst hs0
          clear hsfn hsf
          go_wp2_with fail
          exact bodyPost_ret (v := .tuple #[.agg #[.bool false, .string ⟨#[]⟩, .int .i64 0], .int .i64 3]) (by simp [results, Tryd.results52, go_sem]) rfl (made_none ((Kp.refl _ _).alloc _) HO2.out)
        · rw [hsfn hs0] at hsf
          clear hsfn
          go_wp2_with fail
          refine (hsf _).mono ?_
          rintro e w2 ⟨rfl, rfl⟩
          go_wp2_with fail
          exact bodyPost_ret (v := .tuple #[.agg #[.bool false, .string ⟨#[]⟩, .int .i64 0], .int .i64 3]) (by simp [results, Tryd.results52, go_sem]) rfl (made_none ((Kp.refl _ _).alloc _) HO2.out)
      · have HO2 : Hid (O = none) := by rw [hO, if_neg h, if_pos (.inr h2)]; exact hid rfl
        have hD1 : D ≠ [] := by rw [hD]; intro e; exact h (dstr_nil.1 e)
        have hE : D.isEmpty = false := by cases D with | nil => exact absurd rfl hD1 | cons _ _ => rfl
        have hB : decide ((60 : Int) < (D.length : Int)) = false := decide_eq_false (by omega)
        clear hO hD hlen
        rcases Nat.eq_zero_or_pos s with hs0 | hs0
        · omega
        · rw [hsfn hs0] at hsf
          clear hsfn
          go_wp2_with fail
          refine (hsf _).mono ?_
          rintro e w2 ⟨rfl, rfl⟩
          go_wp2_with fail
          exact bodyPost_ret (v := .tuple #[.agg #[.bool false, .string ⟨#[]⟩, .int .i64 0], .int .i64 3]) (by simp [results, Tryd.results52, go_sem]) rfl (made_none ((Kp.refl _ _).alloc _) HO2.out)
      · have hlt : n < 10 ^ 60 := hlen.1 h1
        have HO2 : Hid (O = some ⟨neg, n, s⟩) := by rw [hO, if_neg h, if_neg (by show ¬ (10 ^ 60 ≤ n ∨ 60 < s); omega)]; exact hid rfl
        have hD1 : D ≠ [] := by rw [hD]; intro e; exact h (dstr_nil.1 e)
        have hE : D.isEmpty = false := by cases D with | nil => exact absurd rfl hD1 | cons _ _ => rfl
        have hB : decide ((60 : Int) < (D.length : Int)) = false := decide_eq_false (by omega)
        clear hO hD hlen hlt
        rcases Nat.eq_zero_or_pos s with hs0 | hs0
        · subst hs0
          clear hsfn hsf
          go_wp2_with fail
          exact bodyPost_ret (v := .tuple #[.agg #[.bool neg, .string ⟨D.toArray⟩, .int .i64 0], .int .i64 0]) (by simp [results, Tryd.results52, go_sem]) rfl (by rw [HD.out]; exact made_some ((Kp.refl _ _).alloc _) h HO2.out)
        · rw [hsfn hs0] at hsf
          clear hsfn
          go_wp2_with fail
          refine (hsf _).mono ?_
          rintro e w2 ⟨rfl, rfl⟩
          go_wp2_with fail
          exact bodyPost_ret (v := .tuple #[.agg #[.bool neg, .string ⟨D.toArray⟩, .int .i64 (s : Int)], .int .i64 0]) (by simp [results, Tryd.results52, go_sem]) rfl (by rw [HD.out]; exact made_some ((Kp.refl _ _).alloc _) h HO2.out)
end Go.Proofs.YtampgimmodomoaaDoor

/- other, leading, May of layer 1. -/
namespace Go.Proofs.YtampgimmodomoaaDoor
open Go Go.RowKit Go.Lib

def notDig (r : Nat) : Bool := decide (r < 48) || decide (57 < r)
theorem notDig_byte (c : UInt8) : notDig c.toNat = !isDig c := by
  have : ∀ m : Fin 256, notDig m.val = !isDig (UInt8.ofNat m.val) := by decide +kernel
  have h := this ⟨c.toNat, c.toNat_lt⟩
  simpa using h
theorem notDig_high {n : Nat} (h : 128 ≤ n) : notDig n = true := by unfold notDig; rw [decide_eq_true (show 57 < n by omega), Bool.or_true]
theorem decode_high {c : UInt8} {t : List UInt8} (h : 128 ≤ c.toNat) : 128 ≤ (decodeL (c :: t)).1 := by
  rw [decodeL_N]
  rcases decodeN_shape (c :: t).length ((c :: t).getD 0 0).toNat ((c :: t).getD 1 0).toNat ((c :: t).getD 2 0).toNat ((c :: t).getD 3 0).toNat with ⟨c0, e⟩ | ⟨c1, c2, c3, cv, e⟩ | ⟨c1, c2, c3, c4, cv, cs, e⟩ | ⟨c1, c2, c3, c4, c5, cv, cw, e⟩ | e
  · simp at c0
    omega
  all_goals (rw [e]; dsimp only; omega)
theorem idx_from (s : ByteArray) : ∀ (f pos : Nat), s.size - pos ≤ f → pos ≤ s.size → idxFuncFrom notDig true s f pos = if rest (s.data.toList.drop pos) = [] then -1 else ((pos + (lead (s.data.toList.drop pos)).length : Nat) : Int)
  | f, pos, hf, hp => by
    have hsz : s.data.toList.length = s.size := by rw [Array.length_toList]; rfl
    by_cases hlt : pos < s.size
    · obtain ⟨f, rfl⟩ : ∃ g, f = g + 1 := ⟨f - 1, by omega⟩
      have hcons : s.data.toList.drop pos = s.data.toList[pos]'(by omega) :: s.data.toList.drop (pos + 1) := List.drop_eq_getElem_cons (by omega)
      obtain ⟨c, hc⟩ : ∃ c, c = s.data.toList[pos]'(by omega) := ⟨_, rfl⟩
      rw [← hc] at hcons
      have hdec := decodeL_drop s pos
      rw [hcons] at hdec
      unfold idxFuncFrom
      rw [if_pos hlt, hcons]
      by_cases hd : Dig c
      · have hd2 := hd
        unfold Dig at hd2
        have e : decodeL (c :: s.data.toList.drop (pos + 1)) = (c.toNat, 1) := decodeL_ascii c _ (by omega)
        rw [e] at hdec
        have hl := lead_append (a := [c]) (fun x hx => by rw [List.mem_singleton.1 hx]; exact hd) (s.data.toList.drop (pos + 1))
        rw [List.singleton_append] at hl
        rw [← hdec, hl.1, hl.2]
        have hnd : notDig c.toNat = false := by rw [notDig_byte, (isDig_iff c).2 hd]; rfl
        simp only [hnd]
        rw [if_neg (fun h => by cases h), idx_from s f (pos + 1) (by omega) (by omega)]
        split
        · rfl
        · rw [List.length_append, List.length_singleton]
          omega
      · obtain ⟨h1, h2⟩ := lead_stop hd (s.data.toList.drop (pos + 1))
        rw [h1, h2]
        have hnd : notDig (Utf8.decode s pos).1 = true := by
          rw [← hdec]
          rcases Nat.lt_or_ge c.toNat 128 with h | h
          · rw [decodeL_ascii c _ h]
            show notDig c.toNat = true
            rw [notDig_byte]
            have : isDig c = false := by rw [← Bool.not_eq_true]; exact fun h => hd ((isDig_iff c).1 h)
            rw [this]; rfl
          · exact notDig_high (decode_high h)
        rw [if_pos hnd, if_neg (by simp)]
        simp
    · have e : s.data.toList.drop pos = [] := List.drop_eq_nil_of_le (by omega)
      rw [idxFuncFrom_end _ _ _ _ _ hlt, e]
      rfl
theorem idx_other (l : List UInt8) : idxFunc notDig true ⟨l.toArray⟩ = if rest l = [] then -1 else ((lead l).length : Int) := by
  have h := idx_from ⟨l.toArray⟩ (⟨l.toArray⟩ : ByteArray).size 0 (by omega) (Nat.zero_le _)
  show idxFuncFrom notDig true ⟨l.toArray⟩ (⟨l.toArray⟩ : ByteArray).size 0 = _
  simpa using h
theorem other_at (w : World) : PredAt Tryd.prog 47 #[] encR notDig w := fun W r _ => by
  unfold FnGives
  have z1 : (r : Int) < 48 ↔ r < 48 := by omega
  have z2 : 57 < (r : Int) ↔ 57 < r := by omega
  by_cases h1 : r < 48 <;> by_cases h2 : 57 < r
  all_goals
    go_enter Tryd.func47, Tryd.ntmps47
    go_wp2
    all_goals first | (exfalso; omega) | (go_ret; exact ⟨by simp [notDig, h1, h2], 0, rfl⟩)
theorem indexF_any (w : World) (l : List UInt8) : Calls Tryd.prog 85 #[.string ⟨l.toArray⟩, .func (.func 47) #[] #[]] w fun e w' => e = .returned (.int .i64 (if rest l = [] then -1 else ((lead l).length : Int))) ∧ Kp [] w w' := by
  have h := Tryd.strings_IndexFunc 47 #[] (enters_of Tryd.func47 (by kernel_rfl) rfl) notDig ⟨l.toArray⟩ w (other_at w)
  rw [idx_other] at h
  exact h.mono fun e w' ⟨h1, h2⟩ => ⟨h1, Kp.of_below h2⟩
theorem contF_any (w : World) (l : List UInt8) : Calls Tryd.prog 46 #[.string ⟨l.toArray⟩, .func (.func 47) #[] #[]] w fun e w' => e = .returned (.bool (decide (¬ rest l = []))) ∧ Kp [] w w' := by
  have h := Tryd.strings_ContainsFunc 47 #[] (enters_of Tryd.func47 (by kernel_rfl) rfl) notDig ⟨l.toArray⟩ w (other_at w)
  rw [idx_other] at h
  have e : decide (0 ≤ (if rest l = [] then (-1 : Int) else ((lead l).length : Int))) = decide (¬ rest l = []) := by
    rw [decide_eq_decide]
    by_cases h : rest l = []
    · rw [if_pos h]; simp [h]
    · rw [if_neg h]; simp [h]
  rw [e] at h
  exact h.mono fun e w' ⟨h1, h2⟩ => ⟨h1, Kp.of_below h2⟩
set_option maxRecDepth 100000 in
set_option maxHeartbeats 1600000 in
theorem leading_any (w : World) (l : List UInt8) (hs : l.length ≤ 1000000) : Calls Tryd.prog 49 #[.string ⟨l.toArray⟩] w fun e w' => e = .returned (.tuple #[.string ⟨(lead l).toArray⟩, .string ⟨(rest l).toArray⟩]) ∧ Kp [] w w' := by
  have hi := fun W => indexF_any W l
  have hsz : (⟨l.toArray⟩ : ByteArray).size = l.length := size_mk l
  have hlr := lead_rest l
  have hll : (lead l).length ≤ l.length := by have := congrArg List.length hlr; rw [List.length_append] at this; omega
  by_cases hr : rest l = []
  · have e1 : lead l = l := by rw [hr, List.append_nil] at hlr; exact hlr
    simp only [if_pos hr] at hi
    have x1 := extract_mk l 0 l.length
    have x2 := extract_mk l l.length l.length
    rw [List.take_length, List.drop_zero] at x1
    rw [List.take_length, List.drop_length] at x2
    rw [hr, e1]
    have i1 : (0 : Int) ≤ (l.length : Int) := by omega
    clear hr e1 hlr hll
    go_enter Tryd.func49, Tryd.ntmps49
    go_wp2_with fail
    refine (hi _).mono ?_
    rintro e w1 ⟨rfl, k1⟩
    have Hk := hid k1
    clear k1
    go_wp2_with fail
    go_quiet (fail)
    go_wp2_with fail
    go_ret2
    exact ⟨rfl, Hk.out.drewN _⟩
  · simp only [if_neg hr] at hi
    obtain ⟨K, hK⟩ : ∃ K, K = (lead l).length := ⟨_, rfl⟩
    have x1 := extract_mk l 0 K
    have x2 := extract_mk l K l.length
    rw [List.drop_zero] at x1
    rw [List.take_length] at x2
    have e1 : l.take K = lead l := by
      have h := List.take_left (l₁ := lead l) (l₂ := rest l)
      rw [hlr] at h
      rw [hK]
      exact h
    have e2 : l.drop K = rest l := by
      have h := List.drop_left (l₁ := lead l) (l₂ := rest l)
      rw [hlr] at h
      rw [hK]
      exact h
    rw [e1] at x1
    rw [e2] at x2
    simp only [← hK] at hi hll
    have i1 : (0 : Int) ≤ (K : Int) := by omega
    have i2 : (K : Int) ≤ (l.length : Int) := by omega
    obtain ⟨D, hD⟩ : ∃ D, D = lead l := ⟨_, rfl⟩
    obtain ⟨E, hE⟩ : ∃ E, E = rest l := ⟨_, rfl⟩
    simp only [← hD, ← hE] at x1 x2 ⊢
    clear hr e1 e2 hlr hK hD hE
    go_enter Tryd.func49, Tryd.ntmps49
    go_wp2_with fail
    refine (hi _).mono ?_
    rintro e w1 ⟨rfl, k1⟩
    have Hk := hid k1
    clear k1
    go_wp2_with fail
    go_quiet (fail)
    go_wp2_with fail
    go_ret2
    exact ⟨rfl, Hk.out.drewN _⟩
end Go.Proofs.YtampgimmodomoaaDoor

/- Room for a result of layer 1; noughts in a row. -/
namespace Go.Proofs.YtampgimmodomoaaDoor
open Go Go.RowKit Go.Lib

theorem repeat_zeros (n : Nat) : Lib.repeatL [48] n = List.replicate n 48 := by
  induction n with
  | zero => rfl
  | succ n ih => rw [List.replicate_succ, ← ih]; rfl
theorem repeat_any (w : World) (n : Nat) (hn : n ≤ 1000000) : Calls Tryd.prog 51 #[.string ⟨#[48]⟩, .int .i64 (n : Int)] w fun e w' => e = .returned (.string ⟨(List.replicate n 48).toArray⟩) ∧ Kp [] w w' := by
  have h := Tryd.strings_Repeat ⟨#[48]⟩ n w (by omega) (by show 1 * n ≤ _; omega)
  have e : Lib.repeatL (⟨#[48]⟩ : ByteArray).data.toList n = List.replicate n 48 := repeat_zeros n
  rw [e] at h
  exact h.mono fun e w' ⟨h1, h2⟩ => ⟨h1, Kp.of_below h2⟩
/-- What stands where the result will lie. -/
def Room (g : Nat) (w : World) : Prop := ∃ cs, Cells w g 23 cs ∧ cs.length = 3
theorem Room.kept {g : Nat} {w w' : World} (h : Room g w) (k : Kp [] w w') : Room g w' := by
  obtain ⟨cs, h1, h2⟩ := h
  exact ⟨cs, h1.keep k (by simp), h2⟩
theorem Room.cells {g : Nat} {w : World} (h : Room g w) : ∃ a b c, w.cell? ⟨g, 0, none⟩ = some a ∧ w.cell? ⟨g, 1, none⟩ = some b ∧ w.cell? ⟨g, 2, none⟩ = some c ∧ w.frozen? ⟨g, 0, none⟩ = false ∧ w.frozen? ⟨g, 1, none⟩ = false ∧ w.frozen? ⟨g, 2, none⟩ = false := by
  obtain ⟨cs, h1, h2⟩ := h
  match cs, h2 with
  | [a, b, c], _ => exact ⟨a, b, c, h1.cell 0, h1.cell 1, h1.cell 2, h1.free 0, h1.free 1, h1.free 2⟩
theorem Room.fresh (w : World) (a b c : Value) : Room w.heap.size (w.alloc (.cells #[a, b, c] 23)) := ⟨[a, b, c], Cells.fresh w 23 [a, b, c], rfl⟩
theorem kp_room {w w1 : World} (k : Kp [] w w1) (a b c : Value) : Kp [] w (((w1.setCell ⟨w.heap.size, 0, none⟩ a).setCell ⟨w.heap.size, 1, none⟩ b).setCell ⟨w.heap.size, 2, none⟩ c) :=
  ((k.setCell (p := ⟨w.heap.size, 0, none⟩) (fun h => by simp at h) a).setCell (p := ⟨w.heap.size, 1, none⟩) (fun h => by simp at h) b).setCell (p := ⟨w.heap.size, 2, none⟩) (fun h => by simp at h) c
theorem made_form (w : World) (neg : Bool) (l : List UInt8) (hl : Digs l) (hs : l.length ≤ 1000000) (S : Nat) (hS : S ≤ 1000000) :
    Calls Tryd.prog 52 #[.bool neg, .string ⟨l.toArray⟩, .int .i64 (S : Int)] w fun e w' => Kp [] w w' ∧ ((norm neg (val l) S = none ∧ e = .returned (.tuple #[.agg #[.bool false, .string ⟨#[]⟩, .int .i64 0], .int .i64 3])) ∨
      ∃ d, norm neg (val l) S = some d ∧ e = .returned (.tuple #[.agg #[.bool d.neg, .string ⟨(dtxt d.n).toArray⟩, .int .i64 (d.s : Int)], .int .i64 0])) := by
  refine (made_any w neg l hl hs S hS).mono fun e w' ⟨h1, h2⟩ => ⟨h2, ?_⟩
  rcases h : norm neg (val l) S with _ | d
  · rw [h] at h1
    exact .inl ⟨rfl, h1⟩
  · rw [h] at h1
    exact .inr ⟨d, rfl, h1⟩
end Go.Proofs.YtampgimmodomoaaDoor

/- exponent of layer 1. -/
namespace Go.Proofs.YtampgimmodomoaaDoor
open Go Go.RowKit Go.Lib

def ExpoPost (w : World) (o : Option Int) (e : Ending) (w' : World) : Prop := e = .returned (.tuple #[.int .i64 (o.getD 0), .bool o.isSome]) ∧ Kp [] w w'
theorem expo_some {w w' : World} (k : Kp [] w w') {o : Option Int} {x : Int} (h : o = some x) : ExpoPost w o (.returned (.tuple #[.int .i64 x, .bool true])) w' := by subst h; exact ⟨rfl, k⟩
theorem expo_none {w w' : World} (k : Kp [] w w') {o : Option Int} (h : o = none) : ExpoPost w o (.returned (.tuple #[.int .i64 0, .bool false])) w' := by subst h; exact ⟨rfl, k⟩
theorem pre_one (l : List UInt8) (c : UInt8) : Lib.hasPrefix l [c] = (match l with | [] => false | d :: _ => c == d) := by
  cases l with
  | nil => rfl
  | cons d t => simp [Lib.hasPrefix, List.isPrefixOf]
theorem expoS_bad {u : List UInt8} (h : rest u ≠ [] ∨ (lead u).length < 1 ∨ 2 < (lead u).length) : expoS u = none := if_pos h
theorem expoS_ok {u : List UInt8} (h : ¬ (rest u ≠ [] ∨ (lead u).length < 1 ∨ 2 < (lead u).length)) : expoS u = some (val (lead u) : Int) := if_neg h
theorem decode_dig {D : List UInt8} (hD : Digs D) {pos : Nat} (h : pos < D.length) : Utf8.decode ⟨D.toArray⟩ pos = (D[pos].toNat, 1) ∧ 48 ≤ D[pos].toNat ∧ D[pos].toNat ≤ 57 := by
  have hd := hD _ (List.getElem_mem h)
  have e := decodeL_drop ⟨D.toArray⟩ pos
  have e2 : (⟨D.toArray⟩ : ByteArray).data.toList = D := rfl
  rw [e2, List.drop_eq_getElem_cons h] at e
  unfold Dig at hd
  rw [← e, decodeL_ascii _ _ (by omega)]
  exact ⟨rfl, hd⟩
theorem expo_head {c : UInt8} (h : c.toNat = 101 ∨ c.toNat = 69) : ¬ (c ≠ 101 ∧ c ≠ 69) := by
  rintro ⟨h1, h2⟩
  rcases h with h | h
  · exact h1 (UInt8.toNat_inj.1 h)
  · exact h2 (UInt8.toNat_inj.1 h)
theorem expo_minus {c : UInt8} (h : c.toNat = 101 ∨ c.toNat = 69) (u : List UInt8) : expoL (c :: 45 :: u) = (expoS u).map (fun x => -x) := if_neg (expo_head h)
theorem expo_plus {c : UInt8} (h : c.toNat = 101 ∨ c.toNat = 69) (u : List UInt8) : expoL (c :: 43 :: u) = (expoS u).map (fun x => x) := by
  have e : expoL (c :: 43 :: u) = expoS u := if_neg (expo_head h)
  rw [e]
  cases expoS u <;> rfl
theorem expo_else {c : UInt8} (h : c.toNat = 101 ∨ c.toNat = 69) (t : List UInt8) (h1 : ∀ u, t ≠ 45 :: u) (h2 : ∀ u, t ≠ 43 :: u) : expoL (c :: t) = (expoS t).map (fun x => x) := by
  have e : expoL (c :: t) = expoS t := by
    unfold expoL
    simp only
    rw [if_neg (expo_head h)]
  rw [e]
  cases expoS t <;> rfl
theorem pre_no {t : List UInt8} {c : UInt8} (h : ∀ u, t ≠ c :: u) : Lib.hasPrefix t [c] = false := by
  rw [pre_one]
  cases t with
  | nil => rfl
  | cons d u =>
    show (c == d) = false
    rw [beq_eq_false_iff_ne]
    intro e
    exact h u (by rw [e])
theorem head_none {c : UInt8} {t : List UInt8} (h : c.toNat ≠ 101 ∧ c.toNat ≠ 69) : expoL (c :: t) = none := if_pos ⟨fun e => h.1 (by rw [e]; rfl), fun e => h.2 (by rw [e]; rfl)⟩
set_option maxRecDepth 100000 in
set_option maxHeartbeats 12800000 in
theorem expo_any (w : World) (L : List UInt8) (hs : L.length ≤ 1000000) : Calls Tryd.prog 50 #[.string ⟨L.toArray⟩] w (ExpoPost w (expoL L)) := by
  obtain ⟨O, hO⟩ : ∃ O, O = expoL L := ⟨_, rfl⟩
  rw [← hO]
  rcases L with _ | ⟨c, t⟩
  · have HO : Hid (O = some 0) := hid hO
    clear hO
    go_enter Tryd.func50, Tryd.ntmps50
    go_wp2_with fail
    go_ret2
    exact expo_some (Kp.refl _ _) HO.out
  have hsz : (⟨(c :: t).toArray⟩ : ByteArray).size = t.length + 1 := size_mk _
  obtain ⟨m, hm⟩ : ∃ m, m = c.toNat := ⟨_, rfl⟩
  have hm2 : m < 256 := by rw [hm]; exact c.toNat_lt
  have hget0 : ∀ G : ByteArray, G = ⟨(c :: t).toArray⟩ → ∀ h : 0 < G.size, (G[0]'h).toNat = m := by
    rintro G rfl h
    rw [hm]
    rfl
  have hget := hget0 _ rfl
  by_cases h0 : m ≠ 101 ∧ m ≠ 69
  · have HO : Hid (O = none) := by
      rw [hO]
      exact hid (head_none (by rw [← hm]; exact h0))
    have b1 : ((m : Int) != 101) = true := by rw [bne_iff_ne]; omega
    have b2 : ((m : Int) != 69) = true := by rw [bne_iff_ne]; omega
    clear hO h0 hm hget0
    go_enter Tryd.func50, Tryd.ntmps50
    go_wp2_with fail
    go_ret2
    exact expo_none (Kp.refl _ _) HO.out
  clear hget
  have hh : c.toNat = 101 ∨ c.toNat = 69 := by rw [← hm]; omega
  have HO := hid hO
  have hx1 := extract_mk (c :: t) 1 (t.length + 1)
  have hx1b : ((c :: t).take (t.length + 1)).drop 1 = t := by rw [List.take_of_length_le (by simp)]; rfl
  rw [hx1b] at hx1
  have ht : t.length ≤ 1000000 := by simp at hs; omega
  have hp1 : ∀ W, Calls Tryd.prog 87 #[.string ⟨t.toArray⟩, .string ⟨#[45]⟩] W fun e w' => e = .returned (.bool (Lib.hasPrefix t [45])) ∧ w' = W := fun W => Tryd.strings_HasPrefix ⟨t.toArray⟩ ⟨#[45]⟩ W
  have hp2 : ∀ W, Calls Tryd.prog 87 #[.string ⟨t.toArray⟩, .string ⟨#[43]⟩] W fun e w' => e = .returned (.bool (Lib.hasPrefix t [43])) ∧ w' = W := fun W => Tryd.strings_HasPrefix ⟨t.toArray⟩ ⟨#[43]⟩ W
  obtain ⟨F, hF⟩ : ∃ F : ByteArray, F = ⟨(c :: t).toArray⟩ := ⟨_, rfl⟩
  have hFe : F.toList.isEmpty = false := by rw [hF, ByteArray.toList_eq]; rfl
  have hFn : F.toList ≠ [] := by rw [hF, ByteArray.toList_eq]; simp
  rw [← hF] at hsz hx1 ⊢
  have hget := hget0 F hF
  have i0 : (1 : Int) ≤ (t.length : Int) + 1 := by omega
  have Hh := hid hh
  clear hx1b hO hs hF hh hget0
  rcases (show m = 101 ∨ m = 69 from by omega) with h | h
  all_goals
    subst h
    clear h0 hm
    rcases (show (∃ U, t = 45 :: U) ∨ (∃ U, t = 43 :: U) ∨ ((∀ U, t ≠ 45 :: U) ∧ ∀ U, t ≠ 43 :: U) from by
      by_cases h1 : ∃ U, t = 45 :: U
      · exact .inl h1
      · by_cases h2 : ∃ U, t = 43 :: U
        · exact .inr (.inl h2)
        · exact .inr (.inr ⟨fun U h => h1 ⟨U, h⟩, fun U h => h2 ⟨U, h⟩⟩)) with ⟨U, rfl⟩ | ⟨U, rfl⟩ | ⟨h1, h2⟩
    · have hG := HO.out.trans (expo_minus Hh.out U)
      have hq : Lib.hasPrefix (45 :: U) [45] = true := by simp [Lib.hasPrefix, List.isPrefixOf]
      simp only [hq] at hp1
      have hx2 := extract_mk (45 :: U) 1 (U.length + 1)
      have hx2b : ((45 :: U).take (U.length + 1)).drop 1 = U := by rw [List.take_of_length_le (by simp)]; rfl
      rw [hx2b] at hx2
      have hs2 : (⟨(45 :: U).toArray⟩ : ByteArray).size = U.length + 1 := size_mk _
      have hU : U.length ≤ 1000000 := by simp at ht; omega
      obtain ⟨T, hT⟩ : ∃ T : ByteArray, T = ⟨(45 :: U).toArray⟩ := ⟨_, rfl⟩
      have hl45 : (List.length (45 :: U)) = U.length + 1 := rfl
      rw [hl45] at hsz hx1 i0
      rw [← hT] at hx1 hx2 hs2
      simp only [← hT] at hp1 hp2
      have i1 : (1 : Int) ≤ (U.length : Int) + 1 := by omega
      have i2 : (1 : Int) ≤ (U.length : Int) + 1 + 1 := by omega
      clear hq hx2b hT hl45 ht
      have cl := fun W => leading_any W U hU
      have hdl := digs_lead U
      have hbad := fun h => expoS_bad (u := U) h
      have hok := fun h => expoS_ok (u := U) h
      obtain ⟨S, hS⟩ : ∃ S, S = expoS U := ⟨_, rfl⟩
      rw [← hS] at hG
      simp only [← hS] at hbad hok
      obtain ⟨D, hD⟩ : ∃ D, D = lead U := ⟨_, rfl⟩
      obtain ⟨E, hE⟩ : ∃ E, E = rest U := ⟨_, rfl⟩
      rw [← hD] at hdl
      simp only [← hD, ← hE] at cl hbad hok
      clear hS hD hE
      have hDs : (⟨D.toArray⟩ : ByteArray).size = D.length := size_mk _
      have HG := hid hG
      have Hbad := hid hbad
      have Hok := hid hok
      have Hdl := hid hdl
      clear hG hbad hok hdl HO Hh
      go_enter Tryd.func50, Tryd.ntmps50
      go_wp2_with fail
      refine (hp1 _).mono ?_
      rintro e w1 ⟨rfl, rfl⟩
      go_wp2_with fail
      refine (cl _).mono ?_
      rintro e w2 ⟨rfl, k2⟩
      have Hk2 := hid k2
      clear k2 cl
      rcases (show E ≠ [] ∨ (E = [] ∧ D.length < 1) ∨ (E = [] ∧ 1 ≤ D.length ∧ 2 < D.length) ∨ (E = [] ∧ 1 ≤ D.length ∧ D.length ≤ 2) from by
        by_cases h : E = []
        · rcases (show D.length < 1 ∨ (1 ≤ D.length ∧ 2 < D.length) ∨ (1 ≤ D.length ∧ D.length ≤ 2) from by omega) with h1 | h1 | h1
          · exact .inr (.inl ⟨h, h1⟩)
          · exact .inr (.inr (.inl ⟨h, h1⟩))
          · exact .inr (.inr (.inr ⟨h, h1⟩))
        · exact .inl h) with h | ⟨h, h1⟩ | ⟨h, h1, h2⟩ | ⟨h, h1, h2⟩
      · have HN : Hid (O = none) := by rw [HG.out, Hbad.out (.inl h)]; exact hid rfl
        have hEe : E.isEmpty = false := by cases E with | nil => exact absurd rfl h | cons _ _ => rfl
        go_wp2_with fail
        go_ret2
        exact expo_none Hk2.out HN.out
      · have HN : Hid (O = none) := by rw [HG.out, Hbad.out (.inr (.inl h1))]; exact hid rfl
        subst h
        have b1 : decide ((D.length : Int) < 1) = true := decide_eq_true (by omega)
        have b1b : D.length = 0 := by omega
        go_wp2_with fail
        go_ret2
        exact expo_none Hk2.out HN.out
      · have HN : Hid (O = none) := by rw [HG.out, Hbad.out (.inr (.inr h2))]; exact hid rfl
        subst h
        have b1 : decide ((D.length : Int) < 1) = false := decide_eq_false (by omega)
        have b2 : decide ((2 : Int) < (D.length : Int)) = true := decide_eq_true (by omega)
        go_wp2_with fail
        go_ret2
        exact expo_none Hk2.out HN.out
      · have HS : Hid (S = some (val D : Int)) := hid (Hok.out (by rintro (h3 | h3 | h3); exact h3 h; omega; omega))
        subst h
        have b1 : decide ((D.length : Int) < 1) = false := decide_eq_false (by omega)
        have b2 : decide ((2 : Int) < (D.length : Int)) = false := decide_eq_false (by omega)
        have hv := val_lt _ Hdl.out
        have hv2 : 10 ^ D.length ≤ 10 ^ 2 := Nat.pow_le_pow_right (by decide) h2
        have hv3 : val D < 100 := by omega
        clear hv hv2
        go_wp2_with fail
        go_loopw [7] (fun v wr => ∃ pos : Nat, wr.heap[w2.heap.size]? = some (.stringIter ⟨D.toArray⟩ pos) ∧ Below w2.heap.size w2 wr ∧ v = .int .i64 ((val (D.take pos) : Nat) : Int) ∧ pos ≤ D.length) (fun _ wr => D.length - wr.iterPos w2.heap.size)
        case atStart => exact ⟨0, World.iter_heap w2 _ 0, (Below.refl _ w2).alloc (Nat.le_refl _) _, rfl, Nat.zero_le _⟩
        case round =>
          obtain ⟨pos, hit, hbl, rfl, hpos⟩ := hrel
          by_cases hp : pos < D.length
          · obtain ⟨d1, d2, d3⟩ := decode_dig Hdl.out hp
            have hnx : ∀ ty, (Instr.next (.pointer (some ⟨w2.heap.size, 0, none⟩)) true ty).run Tryd.prog wr = _ := fun ty => Lib.run_next_any_at wr w2.heap.size ⟨D.toArray⟩ pos ty hit (by rw [hDs]; exact hp)
            rw [d1] at hnx
            have hvs := val_snoc (D.take pos) D[pos]
            rw [List.take_append_getElem hp] at hvs
            have hvl := val_lt _ (Hdl.out.take pos)
            have hvl2 : (D.take pos).length ≤ 1 := by rw [List.length_take]; omega
            have hvl3 : 10 ^ (D.take pos).length ≤ 10 ^ 1 := Nat.pow_le_pow_right (by decide) hvl2
            obtain ⟨x, hx⟩ : ∃ x, x = val (D.take pos) := ⟨_, rfl⟩
            obtain ⟨y, hy⟩ : ∃ y, y = D[pos].toNat := ⟨_, rfl⟩
            rw [← hx, ← hy] at hvs
            rw [← hx] at hvl ⊢
            rw [← hy] at hnx d2 d3
            have hx9 : x < 10 := by omega
            have hh1 := Lib.iterAt_heap wr w2.heap.size ⟨D.toArray⟩ pos (pos + 1) hit
            have hh2 := Lib.below_iterAt hbl (Nat.le_refl _) ⟨D.toArray⟩ (pos + 1)
            obtain ⟨W3, hW3⟩ : ∃ W3, W3 = wr.iterAt w2.heap.size ⟨D.toArray⟩ (pos + 1) := ⟨_, rfl⟩
            simp only [← hW3] at hnx hh1 hh2
            have HH := hid (And.intro hh1 (And.intro hh2 (And.intro hvs hit)))
            clear hh1 hh2 hvs hx hy hvl hvl2 hvl3 hit hbl d1 hW3
            go_wp2_with fail
            go_roundw
            case rel => exact ⟨pos + 1, HH.out.1, HH.out.2.1, by rw [HH.out.2.2.1]; go_num, by omega⟩
            case measure =>
              simp only [World.iterPos, HH.out.1, HH.out.2.2.2]
              omega
          · have hnx : ∀ ty, (Instr.next (.pointer (some ⟨w2.heap.size, 0, none⟩)) true ty).run Tryd.prog wr = _ := fun ty => Lib.run_next_end_at wr w2.heap.size ⟨D.toArray⟩ pos ty hit (by rw [hDs]; exact hp)
            have htk : D.take pos = D := List.take_of_length_le (by omega)
            rw [htk]
            have HB := hid (Hk2.out.nil (Kp.of_below hbl))
            clear hit hbl htk
            go_wp2_with fail
            go_ret2
            exact expo_some HB.out (by rw [HG.out, HS.out]; rfl)
    · have hG := HO.out.trans (expo_plus Hh.out U)
      have hq0 : Lib.hasPrefix (43 :: U) [45] = false := by rw [pre_one]; rfl
      simp only [hq0] at hp1
      have hq : Lib.hasPrefix (43 :: U) [43] = true := by simp [Lib.hasPrefix, List.isPrefixOf]
      simp only [hq] at hp2
      have hx2 := extract_mk (43 :: U) 1 (U.length + 1)
      have hx2b : ((43 :: U).take (U.length + 1)).drop 1 = U := by rw [List.take_of_length_le (by simp)]; rfl
      rw [hx2b] at hx2
      have hs2 : (⟨(43 :: U).toArray⟩ : ByteArray).size = U.length + 1 := size_mk _
      have hU : U.length ≤ 1000000 := by simp at ht; omega
      obtain ⟨T, hT⟩ : ∃ T : ByteArray, T = ⟨(43 :: U).toArray⟩ := ⟨_, rfl⟩
      have hl45 : (List.length (43 :: U)) = U.length + 1 := rfl
      rw [hl45] at hsz hx1 i0
      rw [← hT] at hx1 hx2 hs2
      simp only [← hT] at hp1 hp2
      have i1 : (1 : Int) ≤ (U.length : Int) + 1 := by omega
      have i2 : (1 : Int) ≤ (U.length : Int) + 1 + 1 := by omega
      clear hq hq0 hx2b hT hl45 ht
      have cl := fun W => leading_any W U hU
      have hdl := digs_lead U
      have hbad := fun h => expoS_bad (u := U) h
      have hok := fun h => expoS_ok (u := U) h
      obtain ⟨S, hS⟩ : ∃ S, S = expoS U := ⟨_, rfl⟩
      rw [← hS] at hG
      simp only [← hS] at hbad hok
      obtain ⟨D, hD⟩ : ∃ D, D = lead U := ⟨_, rfl⟩
      obtain ⟨E, hE⟩ : ∃ E, E = rest U := ⟨_, rfl⟩
      rw [← hD] at hdl
      simp only [← hD, ← hE] at cl hbad hok
      clear hS hD hE
      have hDs : (⟨D.toArray⟩ : ByteArray).size = D.length := size_mk _
      have HG := hid hG
      have Hbad := hid hbad
      have Hok := hid hok
      have Hdl := hid hdl
      clear hG hbad hok hdl HO Hh
      go_enter Tryd.func50, Tryd.ntmps50
      go_wp2_with fail
      refine (hp1 _).mono ?_
      rintro e w1 ⟨rfl, rfl⟩
      go_wp2_with fail
      refine (hp2 _).mono ?_
      rintro e w1 ⟨rfl, rfl⟩
      go_wp2_with fail
      refine (cl _).mono ?_
      rintro e w2 ⟨rfl, k2⟩
      have Hk2 := hid k2
      clear k2 cl
      rcases (show E ≠ [] ∨ (E = [] ∧ D.length < 1) ∨ (E = [] ∧ 1 ≤ D.length ∧ 2 < D.length) ∨ (E = [] ∧ 1 ≤ D.length ∧ D.length ≤ 2) from by
        by_cases h : E = []
        · rcases (show D.length < 1 ∨ (1 ≤ D.length ∧ 2 < D.length) ∨ (1 ≤ D.length ∧ D.length ≤ 2) from by omega) with h1 | h1 | h1
          · exact .inr (.inl ⟨h, h1⟩)
          · exact .inr (.inr (.inl ⟨h, h1⟩))
          · exact .inr (.inr (.inr ⟨h, h1⟩))
        · exact .inl h) with h | ⟨h, h1⟩ | ⟨h, h1, h2⟩ | ⟨h, h1, h2⟩
      · have HN : Hid (O = none) := by rw [HG.out, Hbad.out (.inl h)]; exact hid rfl
        have hEe : E.isEmpty = false := by cases E with | nil => exact absurd rfl h | cons _ _ => rfl
        go_wp2_with fail
        go_ret2
        exact expo_none Hk2.out HN.out
      · have HN : Hid (O = none) := by rw [HG.out, Hbad.out (.inr (.inl h1))]; exact hid rfl
        subst h
        have b1 : decide ((D.length : Int) < 1) = true := decide_eq_true (by omega)
        have b1b : D.length = 0 := by omega
        go_wp2_with fail
        go_ret2
        exact expo_none Hk2.out HN.out
      · have HN : Hid (O = none) := by rw [HG.out, Hbad.out (.inr (.inr h2))]; exact hid rfl
        subst h
        have b1 : decide ((D.length : Int) < 1) = false := decide_eq_false (by omega)
        have b2 : decide ((2 : Int) < (D.length : Int)) = true := decide_eq_true (by omega)
        go_wp2_with fail
        go_ret2
        exact expo_none Hk2.out HN.out
      · have HS : Hid (S = some (val D : Int)) := hid (Hok.out (by rintro (h3 | h3 | h3); exact h3 h; omega; omega))
        subst h
        have b1 : decide ((D.length : Int) < 1) = false := decide_eq_false (by omega)
        have b2 : decide ((2 : Int) < (D.length : Int)) = false := decide_eq_false (by omega)
        have hv := val_lt _ Hdl.out
        have hv2 : 10 ^ D.length ≤ 10 ^ 2 := Nat.pow_le_pow_right (by decide) h2
        have hv3 : val D < 100 := by omega
        clear hv hv2
        go_wp2_with fail
        go_loopw [7] (fun v wr => ∃ pos : Nat, wr.heap[w2.heap.size]? = some (.stringIter ⟨D.toArray⟩ pos) ∧ Below w2.heap.size w2 wr ∧ v = .int .i64 ((val (D.take pos) : Nat) : Int) ∧ pos ≤ D.length) (fun _ wr => D.length - wr.iterPos w2.heap.size)
        case atStart => exact ⟨0, World.iter_heap w2 _ 0, (Below.refl _ w2).alloc (Nat.le_refl _) _, rfl, Nat.zero_le _⟩
        case round =>
          obtain ⟨pos, hit, hbl, rfl, hpos⟩ := hrel
          by_cases hp : pos < D.length
          · obtain ⟨d1, d2, d3⟩ := decode_dig Hdl.out hp
            have hnx : ∀ ty, (Instr.next (.pointer (some ⟨w2.heap.size, 0, none⟩)) true ty).run Tryd.prog wr = _ := fun ty => Lib.run_next_any_at wr w2.heap.size ⟨D.toArray⟩ pos ty hit (by rw [hDs]; exact hp)
            rw [d1] at hnx
            have hvs := val_snoc (D.take pos) D[pos]
            rw [List.take_append_getElem hp] at hvs
            have hvl := val_lt _ (Hdl.out.take pos)
            have hvl2 : (D.take pos).length ≤ 1 := by rw [List.length_take]; omega
            have hvl3 : 10 ^ (D.take pos).length ≤ 10 ^ 1 := Nat.pow_le_pow_right (by decide) hvl2
            obtain ⟨x, hx⟩ : ∃ x, x = val (D.take pos) := ⟨_, rfl⟩
            obtain ⟨y, hy⟩ : ∃ y, y = D[pos].toNat := ⟨_, rfl⟩
            rw [← hx, ← hy] at hvs
            rw [← hx] at hvl ⊢
            rw [← hy] at hnx d2 d3
            have hx9 : x < 10 := by omega
            have hh1 := Lib.iterAt_heap wr w2.heap.size ⟨D.toArray⟩ pos (pos + 1) hit
            have hh2 := Lib.below_iterAt hbl (Nat.le_refl _) ⟨D.toArray⟩ (pos + 1)
            obtain ⟨W3, hW3⟩ : ∃ W3, W3 = wr.iterAt w2.heap.size ⟨D.toArray⟩ (pos + 1) := ⟨_, rfl⟩
            simp only [← hW3] at hnx hh1 hh2
            have HH := hid (And.intro hh1 (And.intro hh2 (And.intro hvs hit)))
            clear hh1 hh2 hvs hx hy hvl hvl2 hvl3 hit hbl d1 hW3
            go_wp2_with fail
            go_roundw
            case rel => exact ⟨pos + 1, HH.out.1, HH.out.2.1, by rw [HH.out.2.2.1]; go_num, by omega⟩
            case measure =>
              simp only [World.iterPos, HH.out.1, HH.out.2.2.2]
              omega
          · have hnx : ∀ ty, (Instr.next (.pointer (some ⟨w2.heap.size, 0, none⟩)) true ty).run Tryd.prog wr = _ := fun ty => Lib.run_next_end_at wr w2.heap.size ⟨D.toArray⟩ pos ty hit (by rw [hDs]; exact hp)
            have htk : D.take pos = D := List.take_of_length_le (by omega)
            rw [htk]
            have HB := hid (Hk2.out.nil (Kp.of_below hbl))
            clear hit hbl htk
            go_wp2_with fail
            go_ret2
            exact expo_some HB.out (by rw [HG.out, HS.out]; rfl)
    · have hG := HO.out.trans (expo_else Hh.out t h1 h2)
      have hq0 := pre_no h1
      simp only [hq0] at hp1
      have hq := pre_no h2
      simp only [hq] at hp2
      have hU : t.length ≤ 1000000 := ht
      obtain ⟨U, hUt⟩ : ∃ U, U = t := ⟨_, rfl⟩
      obtain ⟨T, hT⟩ : ∃ T : ByteArray, T = ⟨t.toArray⟩ := ⟨_, rfl⟩
      rw [← hT] at hx1
      simp only [← hT] at hp1 hp2
      clear hq hq0 h1 h2 ht
      have cl := fun W => leading_any W t hU
      rw [← hT] at cl
      have HT := hid hT
      clear hT
      have hdl := digs_lead t
      have hbad := fun h => expoS_bad (u := t) h
      have hok := fun h => expoS_ok (u := t) h
      obtain ⟨S, hS⟩ : ∃ S, S = expoS t := ⟨_, rfl⟩
      rw [← hS] at hG
      simp only [← hS] at hbad hok
      obtain ⟨D, hD⟩ : ∃ D, D = lead t := ⟨_, rfl⟩
      obtain ⟨E, hE⟩ : ∃ E, E = rest t := ⟨_, rfl⟩
      rw [← hD] at hdl
      simp only [← hD, ← hE] at cl hbad hok
      clear hS hD hE
      have hDs : (⟨D.toArray⟩ : ByteArray).size = D.length := size_mk _
      have HG := hid hG
      have Hbad := hid hbad
      have Hok := hid hok
      have Hdl := hid hdl
      clear hG hbad hok hdl HO Hh
      go_enter Tryd.func50, Tryd.ntmps50
      go_wp2_with fail
      refine (hp1 _).mono ?_
      rintro e w1 ⟨rfl, rfl⟩
      go_wp2_with fail
      refine (hp2 _).mono ?_
      rintro e w1 ⟨rfl, rfl⟩
      go_wp2_with fail
      refine (cl _).mono ?_
      rintro e w2 ⟨rfl, k2⟩
      have Hk2 := hid k2
      clear k2 cl
      rcases (show E ≠ [] ∨ (E = [] ∧ D.length < 1) ∨ (E = [] ∧ 1 ≤ D.length ∧ 2 < D.length) ∨ (E = [] ∧ 1 ≤ D.length ∧ D.length ≤ 2) from by
        by_cases h : E = []
        · rcases (show D.length < 1 ∨ (1 ≤ D.length ∧ 2 < D.length) ∨ (1 ≤ D.length ∧ D.length ≤ 2) from by omega) with h1 | h1 | h1
          · exact .inr (.inl ⟨h, h1⟩)
          · exact .inr (.inr (.inl ⟨h, h1⟩))
          · exact .inr (.inr (.inr ⟨h, h1⟩))
        · exact .inl h) with h | ⟨h, h1⟩ | ⟨h, h1, h2⟩ | ⟨h, h1, h2⟩
      · have HN : Hid (O = none) := by rw [HG.out, Hbad.out (.inl h)]; exact hid rfl
        have hEe : E.isEmpty = false := by cases E with | nil => exact absurd rfl h | cons _ _ => rfl
        go_wp2_with fail
        go_ret2
        exact expo_none Hk2.out HN.out
      · have HN : Hid (O = none) := by rw [HG.out, Hbad.out (.inr (.inl h1))]; exact hid rfl
        subst h
        have b1 : decide ((D.length : Int) < 1) = true := decide_eq_true (by omega)
        have b1b : D.length = 0 := by omega
        go_wp2_with fail
        go_ret2
        exact expo_none Hk2.out HN.out
      · have HN : Hid (O = none) := by rw [HG.out, Hbad.out (.inr (.inr h2))]; exact hid rfl
        subst h
        have b1 : decide ((D.length : Int) < 1) = false := decide_eq_false (by omega)
        have b2 : decide ((2 : Int) < (D.length : Int)) = true := decide_eq_true (by omega)
        go_wp2_with fail
        go_ret2
        exact expo_none Hk2.out HN.out
      · have HS : Hid (S = some (val D : Int)) := hid (Hok.out (by rintro (h3 | h3 | h3); exact h3 h; omega; omega))
        subst h
        have b1 : decide ((D.length : Int) < 1) = false := decide_eq_false (by omega)
        have b2 : decide ((2 : Int) < (D.length : Int)) = false := decide_eq_false (by omega)
        have hv := val_lt _ Hdl.out
        have hv2 : 10 ^ D.length ≤ 10 ^ 2 := Nat.pow_le_pow_right (by decide) h2
        have hv3 : val D < 100 := by omega
        clear hv hv2
        go_wp2_with fail
        go_loopw [7] (fun v wr => ∃ pos : Nat, wr.heap[w2.heap.size]? = some (.stringIter ⟨D.toArray⟩ pos) ∧ Below w2.heap.size w2 wr ∧ v = .int .i64 ((val (D.take pos) : Nat) : Int) ∧ pos ≤ D.length) (fun _ wr => D.length - wr.iterPos w2.heap.size)
        case atStart => exact ⟨0, World.iter_heap w2 _ 0, (Below.refl _ w2).alloc (Nat.le_refl _) _, rfl, Nat.zero_le _⟩
        case round =>
          obtain ⟨pos, hit, hbl, rfl, hpos⟩ := hrel
          by_cases hp : pos < D.length
          · obtain ⟨d1, d2, d3⟩ := decode_dig Hdl.out hp
            have hnx : ∀ ty, (Instr.next (.pointer (some ⟨w2.heap.size, 0, none⟩)) true ty).run Tryd.prog wr = _ := fun ty => Lib.run_next_any_at wr w2.heap.size ⟨D.toArray⟩ pos ty hit (by rw [hDs]; exact hp)
            rw [d1] at hnx
            have hvs := val_snoc (D.take pos) D[pos]
            rw [List.take_append_getElem hp] at hvs
            have hvl := val_lt _ (Hdl.out.take pos)
            have hvl2 : (D.take pos).length ≤ 1 := by rw [List.length_take]; omega
            have hvl3 : 10 ^ (D.take pos).length ≤ 10 ^ 1 := Nat.pow_le_pow_right (by decide) hvl2
            obtain ⟨x, hx⟩ : ∃ x, x = val (D.take pos) := ⟨_, rfl⟩
            obtain ⟨y, hy⟩ : ∃ y, y = D[pos].toNat := ⟨_, rfl⟩
            rw [← hx, ← hy] at hvs
            rw [← hx] at hvl ⊢
            rw [← hy] at hnx d2 d3
            have hx9 : x < 10 := by omega
            have hh1 := Lib.iterAt_heap wr w2.heap.size ⟨D.toArray⟩ pos (pos + 1) hit
            have hh2 := Lib.below_iterAt hbl (Nat.le_refl _) ⟨D.toArray⟩ (pos + 1)
            obtain ⟨W3, hW3⟩ : ∃ W3, W3 = wr.iterAt w2.heap.size ⟨D.toArray⟩ (pos + 1) := ⟨_, rfl⟩
            simp only [← hW3] at hnx hh1 hh2
            have HH := hid (And.intro hh1 (And.intro hh2 (And.intro hvs hit)))
            clear hh1 hh2 hvs hx hy hvl hvl2 hvl3 hit hbl d1 hW3
            go_wp2_with fail
            go_roundw
            case rel => exact ⟨pos + 1, HH.out.1, HH.out.2.1, by rw [HH.out.2.2.1]; go_num, by omega⟩
            case measure =>
              simp only [World.iterPos, HH.out.1, HH.out.2.2.2]
              omega
          · have hnx : ∀ ty, (Instr.next (.pointer (some ⟨w2.heap.size, 0, none⟩)) true ty).run Tryd.prog wr = _ := fun ty => Lib.run_next_end_at wr w2.heap.size ⟨D.toArray⟩ pos ty hit (by rw [hDs]; exact hp)
            have htk : D.take pos = D := List.take_of_length_le (by omega)
            rw [htk]
            have HB := hid (Hk2.out.nil (Kp.of_below hbl))
            clear hit hbl htk
            go_wp2_with fail
            go_ret2
            exact expo_some HB.out (by rw [HG.out, HS.out]; rfl)
end Go.Proofs.YtampgimmodomoaaDoor

