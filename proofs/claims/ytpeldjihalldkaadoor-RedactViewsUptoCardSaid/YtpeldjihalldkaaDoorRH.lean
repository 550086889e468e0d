/- The document's answer for layer 1: digit, zeros, Norm. -/
import Derived.Test.YtpeldjihalldkaaDoorRD
import Derived.Test.YtpeldjihalldkaaDoorRB
import Derived.Test.YtpeldjihalldkaaDoorShelf
import Derived.Lib.ValidLaws
import Derived.Shelf.GgClosure.StringsIndexFunc
import Derived.BigQuiet
import Derived.Deep.QuietTactic
import Derived.Lib.OthersKept
import Derived.Deep.RegionHeld3
import Derived.Test.YtpeldjihalldkaaDoorRA
import Derived.Test.YtpeldjihalldkaaDoorRG
namespace Go.Proofs.YtpeldjihalldkaaDoor
open Go Go.RowKit

theorem rdigit_any (w : World) (m : Nat) (_ : m < 256) : Calls Tryd.prog 86 #[.int .u8 (m : Int)] w fun e w' => e = .returned (.bool (decide (48 ≤ m ∧ m ≤ 57))) ∧ w' = w := by
  obtain ⟨b, hb⟩ : ∃ b, b = decide (48 ≤ m ∧ m ≤ 57) := ⟨_, rfl⟩
  rw [← hb]
  have HB := hid hb
  clear hb
  by_cases h1 : 48 ≤ m
  · by_cases h2 : m ≤ 57
    · have HD := hid (HB.out.trans (decide_eq_true (And.intro h1 h2)))
      have b2 : decide ((m : Int) ≤ 57) = true := decide_eq_true (by omega)
      go_enter Tryd.func86, Tryd.ntmps86
      go_wp2_with fail
      go_ret
      exact ⟨by rw [HD.out]; rfl, rfl⟩
    · have HD := hid (HB.out.trans (decide_eq_false (p := 48 ≤ m ∧ m ≤ 57) (fun h => h2 h.2)))
      have b2 : decide ((m : Int) ≤ 57) = false := decide_eq_false (by omega)
      go_enter Tryd.func86, Tryd.ntmps86
      go_wp2_with fail
      go_ret
      exact ⟨by rw [HD.out]; rfl, rfl⟩
  · have HD := hid (HB.out.trans (decide_eq_false (p := 48 ≤ m ∧ m ≤ 57) (fun h => h1 h.1)))
    go_enter Tryd.func86, Tryd.ntmps86
    go_wp2_with fail
    go_ret
    exact ⟨by rw [HD.out]; rfl, rfl⟩
set_option maxRecDepth 100000 in
set_option maxHeartbeats 1600000 in
theorem rzeros_any (w : World) (n : Nat) (hn : n ≤ 1000000) : Calls Tryd.prog 64 #[.int .i64 (n : Int)] w fun e w' => e = .returned (.string ⟨(List.replicate n 48).toArray⟩) ∧ w' = w := by
  go_enter Tryd.func64, Tryd.ntmps64
  go_wp2_with fail
  go_loopw [3, 4] (fun vs vi wr => wr = w ∧ ∃ i : Nat, vs = .string ⟨(List.replicate i 48).toArray⟩ ∧ vi = .int .i64 (i : Int) ∧ i ≤ n) (fun _ vi _ => n - (intOf vi).toNat)
  case atStart => exact ⟨rfl, 0, rfl, rfl, Nat.zero_le _⟩
  case round =>
    obtain ⟨hwr, i, rfl, rfl, hi⟩ := hrel
    have hwr2 := hwr.symm
    subst hwr2
    by_cases hlt : i < n
    · have ha : ∀ X, (Op.stringOp .add ⟨(List.replicate i 48).toArray⟩ ⟨#[48]⟩).run Tryd.prog X = .ok (.string ⟨(List.replicate (i + 1) 48).toArray⟩) X := fun X => run_add_text (P := Tryd.prog) (List.replicate i 48) [48] (List.replicate (i + 1) 48) (by rw [List.replicate_succ']) (by simp; omega) X
      obtain ⟨R, hR⟩ : ∃ R : List UInt8, R = List.replicate i 48 := ⟨_, rfl⟩
      obtain ⟨R2, hR2⟩ : ∃ R2 : List UInt8, R2 = List.replicate (i + 1) 48 := ⟨_, rfl⟩
      simp only [← hR, ← hR2] at ha ⊢
      have H2 := hid hR2
      clear hR hR2
      go_wp2_with fail
      go_roundw
      case rel => exact ⟨trivial, i + 1, by rw [H2.out], by go_num, by omega⟩
      case measure => simp [intOf]; omega
    · have e : i = n := by omega
      subst e
      go_wp2_with fail
      go_ret
      exact ⟨rfl, rfl⟩
def strLen (v : Value) : Nat := match v with | .string s => s.size | _ => 0
theorem drop_one (t : List UInt8) : (48 :: t).dropWhile (· == 48) = t.dropWhile (· == 48) := rfl
theorem drop_stop {c : UInt8} (t : List UInt8) (h : c.toNat ≠ 48) : (c :: t).dropWhile (· == 48) = c :: t := by
  rw [List.dropWhile_cons, if_neg]
  intro h2
  have := beq_iff_eq.1 h2
  subst this
  exact h rfl
theorem byte_48 {c : UInt8} (h : c.toNat = 48) : c = 48 := UInt8.toNat_inj.1 (by rw [h]; rfl)
/-- The last digit. -/
theorem dstr_last {D : List UInt8} {n K : Nat} (hD : D = dstr n) (h : n ≠ 0) (hK : D.length = K + 1) (g : K < (⟨D.toArray⟩ : ByteArray).size) : ((⟨D.toArray⟩ : ByteArray)[K]'g).toNat = 48 + n % 10 := by
  subst hD
  rw [← dg_toNat]
  have e : (dstr n)[K]? = some (dg n) := by
    have hs := dstr_step h
    have hl := congrArg List.length hs
    rw [hK, List.length_append, List.length_singleton] at hl
    rw [hs, List.getElem?_append_right (by omega), show K - (dstr (n / 10)).length = 0 by omega]
    rfl
  obtain ⟨h1, h2⟩ := List.getElem?_eq_some_iff.1 e
  exact congrArg UInt8.toNat h2
set_option maxRecDepth 100000 in
set_option maxHeartbeats 6400000 in
theorem rnorm_any (w : World) (neg : Bool) (l : List UInt8) (hl : Digs l) (hs : l.length ≤ 1000000) (S : Nat) (hS : S ≤ 1000000) :
    Calls Tryd.prog 65 #[.bool neg, .string ⟨l.toArray⟩, .int .i64 (S : Int)] w (MadePost w (norm neg (val l) S)) := by
  have hdz := dropZeros l hl
  obtain ⟨N, hN⟩ : ∃ N, N = val l := ⟨_, rfl⟩
  rw [← hN] at hdz ⊢
  obtain ⟨O, hO⟩ : ∃ O, O = norm neg N S := ⟨_, rfl⟩
  rw [← hO]
  have HO := hid hO
  have Hdz := hid hdz
  clear hN hO hdz hl
  go_enter Tryd.func65, Tryd.ntmps65
  go_wp2_with fail
  go_loopw [1] (fun v wr => wr = w.alloc (.cells #[.bool false, .string ⟨#[]⟩, .int .i64 0] 26) ∧ ∃ m : List UInt8, v = .string ⟨m.toArray⟩ ∧ m.length ≤ 1000000 ∧ m.dropWhile (· == 48) = dstr N) (fun v _ => strLen v)
  case atStart => exact ⟨rfl, l, rfl, hs, Hdz.out⟩
  case round =>
    obtain ⟨rfl, m, rfl, hm, hd⟩ := hrel
    have hsz : (⟨m.toArray⟩ : ByteArray).size = m.length := size_mk _
    by_cases hgo : ∃ t, m = 48 :: t
    · obtain ⟨t, rfl⟩ := hgo
      rw [drop_one] at hd
      have hx := extract_mk (48 :: t) 1 (t.length + 1)
      have e1 : ((48 :: t).take (t.length + 1)).drop 1 = t := by simp
      rw [e1] at hx
      have hml : t.length + 1 ≤ 1000000 := hm
      obtain ⟨M, hM⟩ : ∃ M : List UInt8, M = 48 :: t := ⟨_, rfl⟩
      rw [List.length_cons] at hsz
      simp only [← hM] at hsz hx ⊢
      have i0 : ∀ g : 0 < (⟨M.toArray⟩ : ByteArray).size, ((⟨M.toArray⟩ : ByteArray)[0]'g).toNat = 48 := fun g => by subst hM; rfl
      have Hd := hid hd
      clear hM hd hm
      go_wp2_with fail
      go_roundw
      case rel => exact ⟨trivial, t, rfl, by omega, Hd.out⟩
      case measure => simp [strLen, hsz, size_mk]
    · obtain ⟨q, hq⟩ : ∃ q, q = (m.headD 0).toNat := ⟨_, rfl⟩
      have i0 : ∀ g : 0 < (⟨m.toArray⟩ : ByteArray).size, ((⟨m.toArray⟩ : ByteArray)[0]'g).toNat = q := fun g => by
        rw [hq]
        cases m with
        | nil => cases g
        | cons c t => rfl
      have hq2 : q < 256 := by rw [hq]; exact (m.headD 0).toNat_lt
      have hq8 : q ≠ 48 := fun h => hgo (by
        cases m with
        | nil => rw [hq] at h; cases h
        | cons c t => exact ⟨t, by rw [show c = 48 from byte_48 (by rw [hq] at h; exact h)]⟩)
      have hd2 : m = dstr N := by
        rw [← hd]
        cases m with
        | nil => rfl
        | cons c t => exact (drop_stop t (by rw [hq] at hq8; exact hq8)).symm
      have b1 : ((q : Int) == 48) = false := by rw [beq_eq_false_iff_ne]; omega
      have HM := hid hd2
      clear hd2 hgo hd hq
      go_upto_region 3 with fail
      all_goals
        go_loopw [1, 2] (fun v vs wr => wr = w.alloc (.cells #[.bool false, .string ⟨#[]⟩, .int .i64 0] 26) ∧ ∃ n s : Nat, v = .string ⟨(dstr n).toArray⟩ ∧ vs = .int .i64 (s : Int) ∧ s ≤ S ∧ (dstr n).length ≤ 1000000 ∧ redN n s = redN N S) (fun _ vs _ => (intOf vs).toNat)
        case atStart => exact ⟨rfl, N, S, by rw [HM.out], rfl, Nat.le_refl _, by rw [← HM.out]; exact hm, rfl⟩
        case round =>
          clear hsz b1 i0 hq2 hq8 hm HM
          obtain ⟨rfl, n, s, rfl, rfl, hs, hl, hr⟩ := hrel
          have hsz : (⟨(dstr n).toArray⟩ : ByteArray).size = (dstr n).length := size_mk _
          have hnr := fun h => norm_red (neg := neg) (N := N) (S := S) (n := n) (s := s) h
          rw [← HO.out] at hnr
          rw [← hr] at hnr
          have Hr := hid hr
          clear hr
          by_cases hgo : 0 < s ∧ n ≠ 0 ∧ n % 10 = 0
          · obtain ⟨g1, g2, g3⟩ := hgo
            obtain ⟨t, rfl⟩ : ∃ t, s = t + 1 := ⟨s - 1, by omega⟩
            have hcut := dstr_cut g2
            obtain ⟨K, hK⟩ : ∃ K, (dstr n).length = K + 1 := ⟨(dstr n).length - 1, by
              have := length_dtxt n
              unfold dtxt at this
              rw [if_neg g2] at this
              omega⟩
            have hex := extract_mk (dstr n) 0 K
            rw [hK, Nat.add_sub_cancel] at hcut
            rw [List.drop_zero, hcut] at hex
            have hl2 : (dstr (n / 10)).length ≤ 1000000 := by rw [← hcut, List.length_take]; omega
            have Hr2 : Hid (redN (n / 10) t = redN N S) := by rw [← Hr.out, redN_go ⟨g2, g3⟩]; exact hid rfl
            obtain ⟨D, hD⟩ : ∃ D, D = dstr n := ⟨_, rfl⟩
            have hlast := dstr_last hD g2 (by rw [hD]; exact hK)
            rw [g3] at hlast
            rw [hK] at hsz hl
            have Hl2 := hid hl2
            clear hnr hcut hK hl2 Hr g2 g3
            obtain ⟨D2, hD2⟩ : ∃ D2, D2 = dstr (n / 10) := ⟨_, rfl⟩
            simp only [← hD, ← hD2] at hsz hex ⊢
            have HD2 := hid hD2
            clear hD2 hD
            go_wp2_with fail
            go_roundw
            case rel => exact ⟨trivial, n / 10, t, by rw [HD2.out], by go_num, by omega, Hl2.out, Hr2.out⟩
            case measure => simp [intOf]
          · have hend : redN n s = (n, s) := by
              cases s with
              | zero => rfl
              | succ t => exact redN_stop (fun h => hgo ⟨by omega, h⟩)
            have hO := hnr hend
            have hlen := length_dstr_iff (n := n) (k := 60)
            obtain ⟨D, hD⟩ : ∃ D, D = dstr n := ⟨_, rfl⟩
            have hwhy : s = 0 ∨ (0 < s ∧ n = 0) ∨ (0 < s ∧ n ≠ 0 ∧ ∃ K q : Nat, D.length = K + 1 ∧ q ≠ 48 ∧ q < 256 ∧ ∀ g : K < (⟨D.toArray⟩ : ByteArray).size, ((⟨D.toArray⟩ : ByteArray)[K]'g).toNat = q) := by
              rcases Nat.eq_zero_or_pos s with h | h
              · exact .inl h
              · by_cases h0 : n = 0
                · exact .inr (.inl ⟨h, h0⟩)
                · have hK : D.length = (D.length - 1) + 1 := by
                    have := length_dtxt n
                    unfold dtxt at this
                    rw [if_neg h0, ← hD] at this
                    omega
                  refine .inr (.inr ⟨h, h0, _, 48 + n % 10, hK, fun h8 => hgo ⟨h, h0, by omega⟩, by omega, dstr_last hD h0 hK⟩)
            clear hnr hend Hr hgo
            simp only [← hD] at hsz hl hlen ⊢
            have HD := hid hD
            rcases (show n = 0 ∨ (n ≠ 0 ∧ 60 < D.length) ∨ (n ≠ 0 ∧ D.length ≤ 60 ∧ 60 < s) ∨ (n ≠ 0 ∧ D.length ≤ 60 ∧ s ≤ 60) from by omega) with h | ⟨h, h1⟩ | ⟨h, h1, h2⟩ | ⟨h, h1, h2⟩
            · have hD0 : D = [] := by rw [HD.out, h]; rfl
              subst hD0
              have HO2 : Hid (O = some ⟨false, 0, 0⟩) := by rw [hO, if_pos h]; exact hid rfl
              clear hO hD hlen
              rcases hwhy with g0 | ⟨g0, g1⟩ | ⟨g0, g1, K, q, hK, q1, q2, q3⟩
              · subst g0
                go_wp2_with fail
                exact bodyPost_ret (v := .tuple #[.agg #[.bool false, .string ⟨#[48]⟩, .int .i64 0], .int .i64 0]) (by simp [results, Tryd.results65, go_sem]) rfl (made_zero ((Kp.refl _ _).alloc _) HO2.out)
              · have gs : decide ((0 : Int) < (s : Int)) = true := decide_eq_true (by omega)
                go_wp2_with fail
                exact bodyPost_ret (v := .tuple #[.agg #[.bool false, .string ⟨#[48]⟩, .int .i64 0], .int .i64 0]) (by simp [results, Tryd.results65, go_sem]) rfl (made_zero ((Kp.refl _ _).alloc _) HO2.out)
              · exact absurd g1 (by omega)
            · have HO2 : Hid (O = none) := by rw [hO, if_neg h, if_pos (.inl (Nat.le_of_not_lt (fun hh => by have := hlen.2 hh; omega)))]; exact hid rfl
              have hD1 : D ≠ [] := by rw [hD]; intro e; exact h (dstr_nil.1 e)
              have hE : D.isEmpty = false := by cases D with | nil => exact absurd rfl hD1 | cons _ _ => rfl
              have hE2 : (D == []) = false := by cases D with | nil => exact absurd rfl hD1 | cons _ _ => rfl
              have hB : decide ((60 : Int) < (D.length : Int)) = true := decide_eq_true (by omega)
              clear hO hlen hD
              rcases hwhy with g0 | ⟨g0, g1⟩ | ⟨g0, g1, K, q, hK, q1, q2, q3⟩
              · subst g0
                go_wp2_with fail
                exact bodyPost_ret (v := .tuple #[.agg #[.bool false, .string ⟨#[]⟩, .int .i64 0], .int .i64 3]) (by simp [results, Tryd.results65, go_sem]) rfl (made_none ((Kp.refl _ _).alloc _) HO2.out)
              · exact absurd g1 (by omega)
              · have gs : decide ((0 : Int) < (s : Int)) = true := decide_eq_true (by omega)
                have gq : ((q : Int) == 48) = false := by rw [beq_eq_false_iff_ne]; omega
                rw [hK] at hsz hl h1 hB
                clear hK
                go_wp2_with fail
                exact bodyPost_ret (v := .tuple #[.agg #[.bool false, .string ⟨#[]⟩, .int .i64 0], .int .i64 3]) (by simp [results, Tryd.results65, go_sem]) rfl (made_none ((Kp.refl _ _).alloc _) HO2.out)
            · have HO2 : Hid (O = none) := by rw [hO, if_neg h, if_pos (.inr h2)]; exact hid rfl
              have hD1 : D ≠ [] := by rw [hD]; intro e; exact h (dstr_nil.1 e)
              have hE : D.isEmpty = false := by cases D with | nil => exact absurd rfl hD1 | cons _ _ => rfl
              have hE2 : (D == []) = false := by cases D with | nil => exact absurd rfl hD1 | cons _ _ => rfl
              have hB : decide ((60 : Int) < (D.length : Int)) = false := decide_eq_false (by omega)
              clear hO hlen hD
              rcases hwhy with g0 | ⟨g0, g1⟩ | ⟨g0, g1, K, q, hK, q1, q2, q3⟩
              · omega
              · exact absurd g1 (by omega)
              · have gs : decide ((0 : Int) < (s : Int)) = true := decide_eq_true (by omega)
                have gq : ((q : Int) == 48) = false := by rw [beq_eq_false_iff_ne]; omega
                rw [hK] at hsz hl h1 hB
                clear hK
                go_wp2_with fail
                exact bodyPost_ret (v := .tuple #[.agg #[.bool false, .string ⟨#[]⟩, .int .i64 0], .int .i64 3]) (by simp [results, Tryd.results65, go_sem]) rfl (made_none ((Kp.refl _ _).alloc _) HO2.out)
            · have hlt : n < 10 ^ 60 := hlen.1 h1
              have HO2 : Hid (O = some ⟨neg, n, s⟩) := by rw [hO, if_neg h, if_neg (by show ¬ (10 ^ 60 ≤ n ∨ 60 < s); omega)]; exact hid rfl
              clear hlt
              have hD1 : D ≠ [] := by rw [hD]; intro e; exact h (dstr_nil.1 e)
              have hE : D.isEmpty = false := by cases D with | nil => exact absurd rfl hD1 | cons _ _ => rfl
              have hE2 : (D == []) = false := by cases D with | nil => exact absurd rfl hD1 | cons _ _ => rfl
              have hB : decide ((60 : Int) < (D.length : Int)) = false := decide_eq_false (by omega)
              clear hO hlen hD
              rcases hwhy with g0 | ⟨g0, g1⟩ | ⟨g0, g1, K, q, hK, q1, q2, q3⟩
              · subst g0
                go_wp2_with fail
                exact bodyPost_ret (v := .tuple #[.agg #[.bool neg, .string ⟨D.toArray⟩, .int .i64 0], .int .i64 0]) (by simp [results, Tryd.results65, go_sem]) rfl (by rw [HD.out]; exact made_some ((Kp.refl _ _).alloc _) h HO2.out)
              · exact absurd g1 (by omega)
              · have gs : decide ((0 : Int) < (s : Int)) = true := decide_eq_true (by omega)
                have gq : ((q : Int) == 48) = false := by rw [beq_eq_false_iff_ne]; omega
                rw [hK] at hsz hl h1 hB
                clear hK
                go_wp2_with fail
                exact bodyPost_ret (v := .tuple #[.agg #[.bool neg, .string ⟨D.toArray⟩, .int .i64 (s : Int)], .int .i64 0]) (by simp [results, Tryd.results65, go_sem]) rfl (by rw [HD.out]; exact made_some ((Kp.refl _ _).alloc _) h HO2.out)
end Go.Proofs.YtpeldjihalldkaaDoor

/- other, leading, May of layer 1. -/
namespace Go.Proofs.YtpeldjihalldkaaDoor
open Go Go.RowKit Go.Lib

def notDig (r : Nat) : Bool := decide (r < 48) || decide (57 < r)
theorem notDig_byte (c : UInt8) : notDig c.toNat = !isDig c := by
  have : ∀ m : Fin 256, notDig m.val = !isDig (UInt8.ofNat m.val) := by decide +kernel
  have h := this ⟨c.toNat, c.toNat_lt⟩
  simpa using h
theorem notDig_high {n : Nat} (h : 128 ≤ n) : notDig n = true := by unfold notDig; rw [decide_eq_true (show 57 < n by omega), Bool.or_true]
theorem decode_high {c : UInt8} {t : List UInt8} (h : 128 ≤ c.toNat) : 128 ≤ (decodeL (c :: t)).1 := by
  rw [decodeL_N]
  rcases decodeN_shape (c :: t).length ((c :: t).getD 0 0).toNat ((c :: t).getD 1 0).toNat ((c :: t).getD 2 0).toNat ((c :: t).getD 3 0).toNat with ⟨c0, e⟩ | ⟨c1, c2, c3, cv, e⟩ | ⟨c1, c2, c3, c4, cv, cs, e⟩ | ⟨c1, c2, c3, c4, c5, cv, cw, e⟩ | e
  · simp at c0
    omega
  all_goals (rw [e]; dsimp only; omega)
theorem idx_from (s : ByteArray) : ∀ (f pos : Nat), s.size - pos ≤ f → pos ≤ s.size → idxFuncFrom notDig true s f pos = if rest (s.data.toList.drop pos) = [] then -1 else ((pos + (lead (s.data.toList.drop pos)).length : Nat) : Int)
  | f, pos, hf, hp => by
    have hsz : s.data.toList.length = s.size := by rw [Array.length_toList]; rfl
    by_cases hlt : pos < s.size
    · obtain ⟨f, rfl⟩ : ∃ g, f = g + 1 := ⟨f - 1, by omega⟩
      have hcons : s.data.toList.drop pos = s.data.toList[pos]'(by omega) :: s.data.toList.drop (pos + 1) := List.drop_eq_getElem_cons (by omega)
      obtain ⟨c, hc⟩ : ∃ c, c = s.data.toList[pos]'(by omega) := ⟨_, rfl⟩
      rw [← hc] at hcons
      have hdec := decodeL_drop s pos
      rw [hcons] at hdec
      unfold idxFuncFrom
      rw [if_pos hlt, hcons]
      by_cases hd : Dig c
      · have hd2 := hd
        unfold Dig at hd2
        have e : decodeL (c :: s.data.toList.drop (pos + 1)) = (c.toNat, 1) := decodeL_ascii c _ (by omega)
        rw [e] at hdec
        have hl := lead_append (a := [c]) (fun x hx => by rw [List.mem_singleton.1 hx]; exact hd) (s.data.toList.drop (pos + 1))
        rw [List.singleton_append] at hl
        rw [← hdec, hl.1, hl.2]
        have hnd : notDig c.toNat = false := by rw [notDig_byte, (isDig_iff c).2 hd]; rfl
        simp only [hnd]
        rw [if_neg (fun h => by cases h), idx_from s f (pos + 1) (by omega) (by omega)]
        split
        · rfl
        · rw [List.length_append, List.length_singleton]
          omega
      · obtain ⟨h1, h2⟩ := lead_stop hd (s.data.toList.drop (pos + 1))
        rw [h1, h2]
        have hnd : notDig (Utf8.decode s pos).1 = true := by
          rw [← hdec]
          rcases Nat.lt_or_ge c.toNat 128 with h | h
          · rw [decodeL_ascii c _ h]
            show notDig c.toNat = true
            rw [notDig_byte]
            have : isDig c = false := by rw [← Bool.not_eq_true]; exact fun h => hd ((isDig_iff c).1 h)
            rw [this]; rfl
          · exact notDig_high (decode_high h)
        rw [if_pos hnd, if_neg (by simp)]
        simp
    · have e : s.data.toList.drop pos = [] := List.drop_eq_nil_of_le (by omega)
      rw [idxFuncFrom_end _ _ _ _ _ hlt, e]
      rfl
theorem idx_other (l : List UInt8) : idxFunc notDig true ⟨l.toArray⟩ = if rest l = [] then -1 else ((lead l).length : Int) := by
  have h := idx_from ⟨l.toArray⟩ (⟨l.toArray⟩ : ByteArray).size 0 (by omega) (Nat.zero_le _)
  show idxFuncFrom notDig true ⟨l.toArray⟩ (⟨l.toArray⟩ : ByteArray).size 0 = _
  simpa using h
end Go.Proofs.YtpeldjihalldkaaDoor

/- May of layer 1. -/
namespace Go.Proofs.YtpeldjihalldkaaDoor
open Go Go.RowKit Go.Lib

/-- Whether a decimal may be, as the code asks. -/
def mayL (neg : Bool) (L : List UInt8) (sc : Int) : Bool :=
  if L.length = 0 ∨ 60 < L.length ∨ sc < 0 ∨ 60 < sc ∨ rest L ≠ [] then false
  else if L = [48] then (decide (sc = 0) && !neg)
  else decide (L.getD 0 0 ≠ 48) && (decide (sc = 0) || decide (L.getD (L.length - 1) 0 ≠ 48))
theorem may_no {neg : Bool} {L : List UInt8} {sc : Int} (h : L.length = 0 ∨ 60 < L.length ∨ sc < 0 ∨ 60 < sc ∨ rest L ≠ []) : mayL neg L sc = false := if_pos h
theorem may_zero {neg : Bool} {sc : Int} (h : 0 ≤ sc ∧ sc ≤ 60) : mayL neg [48] sc = (decide (sc = 0) && !neg) := by
  unfold mayL
  rw [if_neg (by
    have : rest [48] = [] := by decide
    rw [this]; simp; omega), if_pos rfl]
theorem may_else {neg : Bool} {L : List UInt8} {sc : Int} (h : ¬ (L.length = 0 ∨ 60 < L.length ∨ sc < 0 ∨ 60 < sc ∨ rest L ≠ [])) (h2 : L ≠ [48]) :
    mayL neg L sc = (decide (L.getD 0 0 ≠ 48) && (decide (sc = 0) || decide (L.getD (L.length - 1) 0 ≠ 48))) := by
  unfold mayL
  rw [if_neg h, if_neg h2]
/-- The decimals that may be are just those in their one form. -/
theorem may_iff (neg : Bool) (L : List UInt8) (sc : Int) : mayL neg L sc = true ↔ ∃ d, Ok d ∧ neg = d.neg ∧ L = dtxt d.n ∧ sc = (d.s : Int) := by
  constructor
  · intro hm
    by_cases h : L.length = 0 ∨ 60 < L.length ∨ sc < 0 ∨ 60 < sc ∨ rest L ≠ []
    · rw [may_no h] at hm; cases hm
    · have hr : rest L = [] := by
        by_cases hr : rest L = []
        · exact hr
        · exact absurd (.inr (.inr (.inr (.inr hr)))) h
      have hL : lead L = L := by have := lead_rest L; rwa [hr, List.append_nil] at this
      have hd : Digs L := by rw [← hL]; exact digs_lead L
      by_cases h2 : L = [48]
      · subst h2
        rw [may_zero (by omega)] at hm
        simp only [Bool.and_eq_true, decide_eq_true_eq, Bool.not_eq_true'] at hm
        refine ⟨⟨false, 0, 0⟩, ok_zero, hm.2, rfl, by rw [hm.1]; rfl⟩
      · rw [may_else h h2] at hm
        simp only [Bool.and_eq_true, Bool.or_eq_true, decide_eq_true_eq] at hm
        obtain ⟨m1, m2⟩ := hm
        have hne : L ≠ [] := by intro e; rw [e] at h; simp at h
        have hdv : dstr (val L) = L := dstr_val hd (fun c t e => by rw [e] at m1; exact m1)
        have hv0 : val L ≠ 0 := by intro e; rw [e] at hdv; exact hne hdv.symm
        have hlt : val L < 10 ^ 60 := Nat.lt_of_lt_of_le (val_lt L hd) (Nat.pow_le_pow_right (by decide) (by omega))
        refine ⟨⟨neg, val L, sc.toNat⟩, ⟨hlt, by show sc.toNat ≤ 60; omega, fun e => absurd e hv0, ?_⟩, rfl, ?_, by show sc = (sc.toNat : Int); omega⟩
        · rcases m2 with m2 | m2
          · exact .inl (by show sc.toNat = 0; omega)
          · right
            show val L % 10 ≠ 0
            intro e
            have hst := dstr_step hv0
            rw [hdv] at hst
            apply m2
            rw [hst, List.length_append, List.length_singleton, Nat.add_sub_cancel, List.getD_eq_getElem?_getD, List.getElem?_append_right (Nat.le_refl _), Nat.sub_self]
            show dg (val L) = 48
            apply UInt8.toNat_inj.1
            rw [dg_toNat, e]
            rfl
        · show L = dtxt (val L)
          unfold dtxt
          rw [if_neg hv0, hdv]
  · rintro ⟨d, hd, rfl, rfl, rfl⟩
    obtain ⟨h1, h2, h3, h4⟩ := hd
    have hl := length_dtxt_le (k := 60) h1 (by decide)
    have hl1 := length_dtxt d.n
    have hr : rest (dtxt d.n) = [] := (lead_all (digs_dtxt _)).2
    by_cases h0 : d.n = 0
    · have e : dtxt d.n = [48] := by rw [h0]; rfl
      rw [e, may_zero (by omega), (h3 h0).1, (h3 h0).2]
      rfl
    · have e : dtxt d.n = dstr d.n := by unfold dtxt; rw [if_neg h0]
      obtain ⟨c, t, e2, hc⟩ := dstr_head d.n h0
      rw [may_else (by rintro (h | h | h | h | h); omega; omega; omega; omega; exact h hr) (by
        rw [e, e2]; intro h; injection h with h _; exact hc h)]
      simp only [Bool.and_eq_true, Bool.or_eq_true, decide_eq_true_eq]
      refine ⟨by rw [e, e2]; exact hc, ?_⟩
      rcases h4 with h4 | h4
      · exact .inl (by rw [h4]; rfl)
      · right
        rw [e, dstr_step h0, List.length_append, List.length_singleton, Nat.add_sub_cancel, List.getD_eq_getElem?_getD, List.getElem?_append_right (Nat.le_refl _), Nat.sub_self]
        show dg d.n ≠ 48
        intro e3
        have := congrArg UInt8.toNat e3
        rw [dg_toNat] at this
        have e48 : (48 : UInt8).toNat = 48 := rfl
        omega
theorem byte_ne (c : UInt8) (k : UInt8) : decide (c ≠ k) = !decide (c.toNat = k.toNat) := by
  by_cases h : c = k
  · subst h; simp
  · have h2 : c.toNat ≠ k.toNat := fun e => h (UInt8.toNat_inj.1 e)
    rw [decide_eq_true h, decide_eq_false h2]
    rfl
end Go.Proofs.YtpeldjihalldkaaDoor

/- The document's answer for layer 1: which decimals may be. -/
namespace Go.Proofs.YtpeldjihalldkaaDoor
open Go Go.RowKit Go.Lib

theorem rest_digs {L : List UInt8} (h : rest L = []) : Digs L := by
  have h2 : lead L = L := by have := lead_rest L; rwa [h, List.append_nil] at this
  rw [← h2]
  exact digs_lead L
theorem digs_take_succ {L : List UInt8} {k : Nat} (hk : k < L.length) (h : Digs (L.take k)) (hd : Dig (L[k]'hk)) : Digs (L.take (k + 1)) := by
  rw [← List.take_append_getElem hk]
  exact h.append (fun c hc => by rw [List.mem_singleton.1 hc]; exact hd)
theorem byte_in (L : List UInt8) (k m : Nat) (hk : k < L.length) (hm : m = (L[k]'hk).toNat) : ∀ g : k < (⟨L.toArray⟩ : ByteArray).size, ((⟨L.toArray⟩ : ByteArray)[k]'g).toNat = m := fun g => by rw [hm]; rfl
end Go.Proofs.YtpeldjihalldkaaDoor

/- The document's answer for layer 1: how many digits stand at a place. -/
namespace Go.Proofs.YtpeldjihalldkaaDoor
open Go Go.RowKit Go.Lib

theorem drop_cons {L t : List UInt8} {p : Nat} {c : UInt8} (h : L.drop p = c :: t) : ∃ hp : p < L.length, L[p]'hp = c ∧ L.drop (p + 1) = t := by
  have hp : p < L.length := by
    rcases Nat.lt_or_ge p L.length with h2 | h2
    · exact h2
    · rw [List.drop_eq_nil_of_le h2] at h; cases h
  rw [List.drop_eq_getElem_cons hp] at h
  injection h with h1 h2
  exact ⟨hp, h1, h2⟩
theorem lead_take {X : List UInt8} {n : Nat} (hn : n ≤ X.length) (hD : Digs (X.take n)) (h : n = X.length ∨ ∃ hlt : n < X.length, ¬ Dig (X[n]'hlt)) : lead X = X.take n ∧ rest X = X.drop n := by
  have h1 := lead_append hD (X.drop n)
  rw [List.take_append_drop] at h1
  rw [h1.1, h1.2]
  rcases h with h | ⟨hlt, hd⟩
  · rw [List.drop_eq_nil_of_le (by omega)]
    exact ⟨List.append_nil _, rfl⟩
  · rw [List.drop_eq_getElem_cons hlt, (lead_stop hd _).1, (lead_stop hd _).2]
    exact ⟨List.append_nil _, rfl⟩
set_option maxRecDepth 100000 in
set_option maxHeartbeats 6400000 in
theorem rrun_any (w : World) (L : List UInt8) (a : Nat) (hL : L.length ≤ 1000000) (ha : a ≤ L.length) :
    Calls Tryd.prog 63 #[.string ⟨L.toArray⟩, .int .i64 (a : Int)] w fun e w' => e = .returned (.int .i64 ((lead (L.drop a)).length : Int)) ∧ w' = w := by
  have hsz : (⟨L.toArray⟩ : ByteArray).size = L.length := size_mk _
  obtain ⟨X, hX⟩ : ∃ X, X = L.drop a := ⟨_, rfl⟩
  have hXl : X.length = L.length - a := by rw [hX, List.length_drop]
  rw [← hX]
  have hXg : ∀ k (h : k < X.length) (h2 : a + k < L.length), X[k]'h = L[a + k]'h2 := fun k h h2 => by subst hX; rw [List.getElem_drop]
  obtain ⟨G, hG⟩ : ∃ G, G = (lead X).length := ⟨_, rfl⟩
  rw [← hG]
  have HX := hid (And.intro hXg hG)
  clear hX hXg hG
  go_enter Tryd.func63, Tryd.ntmps63
  go_wp2_with fail
  go_loopw [5] (fun vi wr => wr = w ∧ ∃ n : Nat, vi = .int .i64 (n : Int) ∧ n ≤ X.length ∧ Digs (X.take n)) (fun vi _ => X.length - (intOf vi).toNat)
  case atStart => exact ⟨rfl, 0, rfl, Nat.zero_le _, Digs.nil⟩
  case round =>
    obtain ⟨hwr, n, rfl, hn, hD⟩ := hrel
    have hwr2 := hwr.symm
    subst hwr2
    by_cases hlt : n < X.length
    · have hp : a + n < L.length := by omega
      obtain ⟨p, hpp⟩ : ∃ p, p = a + n := ⟨_, rfl⟩
      have hpl : p < L.length := by omega
      obtain ⟨m, hm⟩ : ∃ m, m = (L[p]'hpl).toNat := ⟨_, rfl⟩
      have ik := byte_in L p m hpl hm
      have hm9 : m < 256 := by rw [hm]; exact UInt8.toNat_lt _
      have hXm : (X[n]'hlt).toNat = m := by rw [hm, HX.out.1 n hlt hp]; congr 1; simp only [hpp]
      have qd := fun W => rdigit_any W m hm9
      have e1 : (a : Int) + (n : Int) = (p : Int) := by omega
      have i1 : (0 : Int) ≤ (p : Int) := by omega
      have i2 : (p : Int) < (L.length : Int) := by omega
      by_cases hdg : 48 ≤ m ∧ m ≤ 57
      · rw [decide_eq_true hdg] at qd
        have HD := hid (digs_take_succ hlt hD (by unfold Dig; rw [hXm]; exact hdg))
        have HL := hid hlt
        have hlp : n + 1 ≤ X.length := hlt
        clear hD hm hdg hXm hpp hp
        go_wp2_with fail
        (with_reducible refine (qd _).mono ?_)
        rintro e w1 ⟨rfl, rfl⟩
        go_wp2_with fail
        go_roundw
        case rel => exact ⟨trivial, n + 1, by go_num, hlp, HD.out⟩
        case measure => simp [intOf]; omega
      · rw [decide_eq_false hdg] at qd
        have HR := hid (lead_take hn hD (.inr ⟨hlt, by unfold Dig; rw [hXm]; exact hdg⟩)).1
        have hln : G = n := by rw [HX.out.2, HR.out, List.length_take]; omega
        have HL := hid hln
        clear hD hm hdg hXm hpp hp hln
        go_wp2_with fail
        (with_reducible refine (qd _).mono ?_)
        rintro e w1 ⟨rfl, rfl⟩
        go_wp2_with fail
        go_ret
        exact ⟨by rw [HL.out]; rfl, rfl⟩
    · have HR := hid (lead_take hn hD (.inl (by omega))).1
      have hln : G = n := by rw [HX.out.2, HR.out, List.length_take]; omega
      have HL := hid hln
      have hb : ¬ a + n < L.length := by omega
      have hb2 : decide ((a : Int) + (n : Int) < (L.length : Int)) = false := decide_eq_false (by omega)
      clear hD hln
      go_wp2_with fail
      go_ret
      exact ⟨by rw [HL.out]; rfl, rfl⟩
end Go.Proofs.YtpeldjihalldkaaDoor

/- exponent of layer 1. -/
namespace Go.Proofs.YtpeldjihalldkaaDoor
open Go Go.RowKit Go.Lib

def ExpoPost (w : World) (o : Option Int) (e : Ending) (w' : World) : Prop := e = .returned (.tuple #[.int .i64 (o.getD 0), .bool o.isSome]) ∧ Kp [] w w'
theorem expo_some {w w' : World} (k : Kp [] w w') {o : Option Int} {x : Int} (h : o = some x) : ExpoPost w o (.returned (.tuple #[.int .i64 x, .bool true])) w' := by subst h; exact ⟨rfl, k⟩
theorem expo_none {w w' : World} (k : Kp [] w w') {o : Option Int} (h : o = none) : ExpoPost w o (.returned (.tuple #[.int .i64 0, .bool false])) w' := by subst h; exact ⟨rfl, k⟩
theorem pre_one (l : List UInt8) (c : UInt8) : Lib.hasPrefix l [c] = (match l with | [] => false | d :: _ => c == d) := by
  cases l with
  | nil => rfl
  | cons d t => simp [Lib.hasPrefix, List.isPrefixOf]
theorem expoS_bad {u : List UInt8} (h : rest u ≠ [] ∨ (lead u).length < 1 ∨ 2 < (lead u).length) : expoS u = none := if_pos h
theorem expoS_ok {u : List UInt8} (h : ¬ (rest u ≠ [] ∨ (lead u).length < 1 ∨ 2 < (lead u).length)) : expoS u = some (val (lead u) : Int) := if_neg h
theorem decode_dig {D : List UInt8} (hD : Digs D) {pos : Nat} (h : pos < D.length) : Utf8.decode ⟨D.toArray⟩ pos = (D[pos].toNat, 1) ∧ 48 ≤ D[pos].toNat ∧ D[pos].toNat ≤ 57 := by
  have hd := hD _ (List.getElem_mem h)
  have e := decodeL_drop ⟨D.toArray⟩ pos
  have e2 : (⟨D.toArray⟩ : ByteArray).data.toList = D := rfl
  rw [e2, List.drop_eq_getElem_cons h] at e
  unfold Dig at hd
  rw [← e, decodeL_ascii _ _ (by omega)]
  exact ⟨rfl, hd⟩
theorem expo_head {c : UInt8} (h : c.toNat = 101 ∨ c.toNat = 69) : ¬ (c ≠ 101 ∧ c ≠ 69) := by
  rintro ⟨h1, h2⟩
  rcases h with h | h
  · exact h1 (UInt8.toNat_inj.1 h)
  · exact h2 (UInt8.toNat_inj.1 h)
theorem expo_minus {c : UInt8} (h : c.toNat = 101 ∨ c.toNat = 69) (u : List UInt8) : expoL (c :: 45 :: u) = (expoS u).map (fun x => -x) := if_neg (expo_head h)
theorem expo_plus {c : UInt8} (h : c.toNat = 101 ∨ c.toNat = 69) (u : List UInt8) : expoL (c :: 43 :: u) = (expoS u).map (fun x => x) := by
  have e : expoL (c :: 43 :: u) = expoS u := if_neg (expo_head h)
  rw [e]
  cases expoS u <;> rfl
theorem expo_else {c : UInt8} (h : c.toNat = 101 ∨ c.toNat = 69) (t : List UInt8) (h1 : ∀ u, t ≠ 45 :: u) (h2 : ∀ u, t ≠ 43 :: u) : expoL (c :: t) = (expoS t).map (fun x => x) := by
  have e : expoL (c :: t) = expoS t := by
    unfold expoL
    simp only
    rw [if_neg (expo_head h)]
  rw [e]
  cases expoS t <;> rfl
theorem pre_no {t : List UInt8} {c : UInt8} (h : ∀ u, t ≠ c :: u) : Lib.hasPrefix t [c] = false := by
  rw [pre_one]
  cases t with
  | nil => rfl
  | cons d u =>
    show (c == d) = false
    rw [beq_eq_false_iff_ne]
    intro e
    exact h u (by rw [e])
theorem head_none {c : UInt8} {t : List UInt8} (h : c.toNat ≠ 101 ∧ c.toNat ≠ 69) : expoL (c :: t) = none := if_pos ⟨fun e => h.1 (by rw [e]; rfl), fun e => h.2 (by rw [e]; rfl)⟩
end Go.Proofs.YtpeldjihalldkaaDoor

/- Parse of layer 1. -/
namespace Go.Proofs.YtpeldjihalldkaaDoor
open Go Go.RowKit Go.Lib

def parV (o : Option (Option Dc)) : Value := match o with | none => .tuple #[noneV, .int .i64 4] | some r => resV r 3
def ParsePost (w : World) (o : Option (Option Dc)) (e : Ending) (w' : World) : Prop := e = .returned (parV o) ∧ Kp [] w w'
theorem sign_cut (l : List UInt8) : signL l = (Lib.hasPrefix l [45], Lib.trimPrefix l [45]) := by
  unfold Lib.trimPrefix
  rw [pre_one]
  rcases l with _ | ⟨c, t⟩
  · rfl
  · by_cases h : c = 45
    · subst h; rfl
    · have hb : (45 == c) = false := by rw [beq_eq_false_iff_ne]; exact fun e => h e.symm
      simp only [hb]
      unfold signL
      split
      · rename_i h2; injection h2 with h2; exact absurd h2 h
      · rfl
theorem cut_len (l : List UInt8) (c : UInt8) : (Lib.trimPrefix l [c]).length ≤ l.length := by
  unfold Lib.trimPrefix
  split
  · rw [List.length_drop]; omega
  · exact Nat.le_refl _
theorem rest_len (l : List UInt8) : (lead l).length + (rest l).length = l.length := by
  have := congrArg List.length (lead_rest l)
  rwa [List.length_append] at this
theorem part_dot (r : List UInt8) (h : Lib.hasPrefix r [46] = true) : partL r = if lead (Lib.trimPrefix r [46]) = [] then none else some (lead (Lib.trimPrefix r [46]), rest (Lib.trimPrefix r [46])) := by
  rw [pre_one] at h
  rcases r with _ | ⟨c, t⟩
  · cases h
  · have hc : 46 = c := by simpa using h
    subst hc
    rfl
theorem part_none (r : List UInt8) (h : Lib.hasPrefix r [46] = false) : partL r = some ([], r) := by
  rw [pre_one] at h
  rcases r with _ | ⟨c, t⟩
  · rfl
  · have hc : ¬ c = 46 := by intro e; subst e; simp at h
    unfold partL
    split
    · rename_i h2; injection h2 with h2; exact absurd h2 hc
    · rfl
theorem plain_parts {l P R : List UInt8} (h : partL (rest l) = some (P, R)) : plainN l = match expoL R with
    | none => none
    | some up => if lead l = [] ∨ (1 < (lead l).length ∧ (lead l).head? = some 48) then none else
      if (P.length : Int) - up < 0 then some (val (lead l ++ P) * 10 ^ (up - P.length).toNat, 0) else some (val (lead l ++ P), ((P.length : Int) - up).toNat) := by
  unfold plainN
  rw [h]
  rfl
theorem plain_no {l : List UInt8} (h : partL (rest l) = none) : plainN l = none := by
  unfold plainN
  rw [h]
theorem digs_part {r P R : List UInt8} (h : partL r = some (P, R)) : Digs P := by
  by_cases hp : Lib.hasPrefix r [46] = true
  · rw [part_dot r hp] at h
    split at h
    · cases h
    · injection h with h
      injection h with h _
      rw [← h]
      exact digs_lead _
  · rw [part_none r (by simpa using hp)] at h
    injection h with h
    injection h with h _
    rw [← h]
    exact Digs.nil
theorem expo_range {l : List UInt8} {x : Int} (h : expoL l = some x) : -99 ≤ x ∧ x ≤ 99 := by
  have hS : ∀ u y, expoS u = some y → 0 ≤ y ∧ y ≤ 99 := by
    intro u y h
    by_cases hb : rest u ≠ [] ∨ (lead u).length < 1 ∨ 2 < (lead u).length
    · rw [expoS_bad hb] at h; cases h
    · rw [expoS_ok hb] at h
      injection h with h
      have hv := val_lt _ (digs_lead u)
      have : 10 ^ (lead u).length ≤ 10 ^ 2 := Nat.pow_le_pow_right (by decide) (by omega)
      omega
  rcases l with _ | ⟨c, t⟩
  · injection h with h; omega
  · by_cases hc : c.toNat = 101 ∨ c.toNat = 69
    · rcases (show (∃ U, t = 45 :: U) ∨ (∃ U, t = 43 :: U) ∨ ((∀ U, t ≠ 45 :: U) ∧ ∀ U, t ≠ 43 :: U) from by
        by_cases h1 : ∃ U, t = 45 :: U
        · exact .inl h1
        · by_cases h2 : ∃ U, t = 43 :: U
          · exact .inr (.inl h2)
          · exact .inr (.inr ⟨fun U h => h1 ⟨U, h⟩, fun U h => h2 ⟨U, h⟩⟩)) with ⟨U, rfl⟩ | ⟨U, rfl⟩ | ⟨h1, h2⟩
      · rw [expo_minus hc] at h
        obtain ⟨y, hy, rfl⟩ := Option.map_eq_some_iff.1 h
        have := hS _ _ hy
        omega
      · rw [expo_plus hc] at h
        obtain ⟨y, hy, rfl⟩ := Option.map_eq_some_iff.1 h
        have := hS _ _ hy
        omega
      · rw [expo_else hc t h1 h2] at h
        obtain ⟨y, hy, rfl⟩ := Option.map_eq_some_iff.1 h
        have := hS _ _ hy
        omega
    · rw [head_none (by omega)] at h
      cases h
theorem par_no {w w' : World} (k : Kp [] w w') {o : Option (Option Dc)} (h : o = none) : ParsePost w o (.returned (.tuple #[.agg #[.bool false, .string ⟨#[]⟩, .int .i64 0], .int .i64 4])) w' := by subst h; exact ⟨rfl, k⟩
theorem par_big {w w' : World} (k : Kp [] w w') {o : Option (Option Dc)} (h : o = some none) : ParsePost w o (.returned (.tuple #[.agg #[.bool false, .string ⟨#[]⟩, .int .i64 0], .int .i64 3])) w' := by subst h; exact ⟨rfl, k⟩
theorem par_dec {w w' : World} (k : Kp [] w w') {o : Option (Option Dc)} {d : Dc} (h : o = some (some d)) : ParsePost w o (.returned (.tuple #[.agg #[.bool d.neg, .string ⟨(dtxt d.n).toArray⟩, .int .i64 (d.s : Int)], .int .i64 0])) w' := by subst h; exact ⟨rfl, k⟩
theorem head_get {D : List UInt8} (h : 0 < D.length) : ∀ g : 0 < (⟨D.toArray⟩ : ByteArray).size, (⟨D.toArray⟩ : ByteArray)[0]'g = D[0]'h := fun _ => rfl
end Go.Proofs.YtpeldjihalldkaaDoor

/- natOf and digits of layer 1. -/
namespace Go.Proofs.YtpeldjihalldkaaDoor
open Go Go.RowKit

/-- Limbs that a call has made. -/
def NatPost (w : World) (n : Nat) (e : Ending) (w' : World) : Prop := ∃ A c, e = .returned (.slice A (limLen n) c) ∧ NatA w' A c n ∧ Kp [] w w'
/-- Own of limbs. -/
def OwnL (w : World) (v : Value) (l : List Nat) : Prop := Own w 23 v l.length (u64s l)
theorem OwnL.shape {w : World} {v : Value} {l : List Nat} (h : OwnL w v l) : ∃ A c, v = .slice A l.length c ∧ LimA w A c l := by
  obtain ⟨A, c, rfl, h2, h3, h4, _⟩ := OwnN.shape (s := 1) h
  exact ⟨A, c, rfl, h2, h3, h4⟩
theorem step_digit {C : List UInt8} (hC : Digs C) {j : Nat} (h : j < C.length) (h9 : C.length ≤ 9) : val (C.take j) < 100000000 ∧ val (C.take (j + 1)) = val (C.take j) * 10 + (C[j].toNat - 48) ∧ 48 ≤ C[j].toNat ∧ C[j].toNat ≤ 57 := by
  have h1 := val_lt _ (hC.take j)
  have h2 : (C.take j).length ≤ 8 := by rw [List.length_take]; omega
  have h3 := hC _ (List.getElem_mem h)
  refine ⟨Nat.lt_of_lt_of_le h1 (Nat.pow_le_pow_right (by decide) h2), ?_, h3⟩
  rw [← List.take_append_getElem h, val_snoc]
end Go.Proofs.YtpeldjihalldkaaDoor

/- aligned of layer 1. -/
namespace Go.Proofs.YtpeldjihalldkaaDoor
open Go Go.RowKit Go.Lib

/-- The numbers of both with the same scale. -/
def AlPost (w : World) (X Y S : Nat) (e : Ending) (w' : World) : Prop := ∃ A c B d, e = .returned (.tuple #[.slice A (limLen X) c, .slice B (limLen Y) d, .int .i64 (S : Int)]) ∧ NatA w' A c X ∧ NatA w' B d Y ∧ Kp [] w w'
end Go.Proofs.YtpeldjihalldkaaDoor

/- cmp of layer 1. -/
namespace Go.Proofs.YtpeldjihalldkaaDoor
open Go Go.RowKit

theorem cmpN_len {a b : Nat} (h : limLen a ≠ limLen b) : cmpN a b = (limLen a : Int) - limLen b := if_pos h
theorem cmpN_lt {a b : Nat} (h : limLen a = limLen b) (k : Nat) (hk : k < limLen a) (hs : ∀ j, k < j → lim (limbs a) j = lim (limbs b) j) (hlt : lim (limbs a) k < lim (limbs b) k) : cmpN a b = -1 := by
  have := lval_cmp (lims_limbs a) h k hk hs hlt
  rw [lval_limbs, lval_limbs] at this
  unfold cmpN
  rw [if_neg (fun h2 => h2 h), if_pos this]
theorem cmpN_gt {a b : Nat} (h : limLen a = limLen b) (k : Nat) (hk : k < limLen a) (hs : ∀ j, k < j → lim (limbs a) j = lim (limbs b) j) (hlt : lim (limbs b) k < lim (limbs a) k) : cmpN a b = 1 := by
  have := lval_cmp (lims_limbs b) h.symm k (by unfold limLen at *; omega) (fun j hj => (hs j hj).symm) hlt
  rw [lval_limbs, lval_limbs] at this
  unfold cmpN
  rw [if_neg (fun h2 => h2 h), if_neg (by omega), if_pos this]
theorem cmpN_eq {a b : Nat} (h : limLen a = limLen b) (hs : ∀ j, 0 ≤ j → lim (limbs a) j = lim (limbs b) j) : cmpN a b = 0 := by
  have e : limbs a = limbs b := lim_ext h (fun j => hs j (Nat.zero_le _))
  have e2 := congrArg lval e
  rw [lval_limbs, lval_limbs] at e2
  unfold cmpN
  rw [if_neg (fun h2 => h2 h), if_neg (by omega), if_neg (by omega)]
theorem lim_small (n i : Nat) : lim (limbs n) i < 1000000000 := lim_lt (lims_limbs n) i
end Go.Proofs.YtpeldjihalldkaaDoor

/- plus and minus of layer 1. -/
namespace Go.Proofs.YtpeldjihalldkaaDoor
open Go Go.RowKit

theorem ownL_snoc {w : World} {v : Value} {l : List Nat} {x n : Nat} (hn : l.length = n) (h : Own w 23 v (n + 1) (u64s l ++ [.int .u64 (x : Int)])) : OwnL w v (l ++ [x]) := by
  subst hn
  unfold OwnL
  rw [u64s_append, List.length_append]
  exact h
end Go.Proofs.YtpeldjihalldkaaDoor

/- digits of layer 1. -/
namespace Go.Proofs.YtpeldjihalldkaaDoor
open Go Go.RowKit

theorem infoByte : (Tryd.prog.info? 5).map (fun i => (i.zero, i.size, i.bytes)) = some (some (.int .u8 0), 1, 1) := by kernel_rfl
theorem u8s_set (l : List UInt8) (p : Nat) (c : UInt8) : u8s (l.set p c) = (u8s l).set p (u8 c) := by simp [u8s, List.map_set]
theorem zeros_u8s (n : Nat) : List.replicate n (Value.int .u8 0) = u8s (List.replicate n 0) := by simp [u8s, u8]
end Go.Proofs.YtpeldjihalldkaaDoor

/- Plain: what the code of sums, differences, products and the order computes, said of numbers. No program in sight. -/
namespace Go.Proofs.YtpeldjihalldkaaDoor

theorem normZ_pos (n s : Nat) : normZ (n : Int) s = norm false n s := by
  unfold normZ
  rw [decide_eq_false (by omega), Int.natAbs_natCast]
theorem normZ_neg (n s : Nat) : normZ (-(n : Int)) s = norm true n s := by
  unfold normZ
  rcases Nat.eq_zero_or_pos n with rfl | h
  · rfl
  · rw [decide_eq_true (by omega), Int.natAbs_neg, Int.natAbs_natCast]
theorem norm_sign (neg : Bool) (n s : Nat) : norm neg n s = normZ (if neg then -(n : Int) else n) s := by
  cases neg
  · simp only [Bool.false_eq_true, if_false]; exact (normZ_pos n s).symm
  · simp only [if_true]; exact (normZ_neg n s).symm
/-- The numbers of both at the greater scale. -/
def up (d : Dc) (S : Nat) : Nat := d.n * 10 ^ (S - d.s)
theorem z_up (d : Dc) (S : Nat) : d.z * 10 ^ (S - d.s) = if d.neg then -(up d S : Int) else (up d S : Int) := by
  unfold up Dc.z
  cases d.neg <;> simp [Int.neg_mul]
theorem add_scale (a b : Dc) (f : Int → Int → Int) (hf : ∀ x y c, f (x * c) (y * c) = f x y * c) : normZ (f (a.z * 10 ^ b.s) (b.z * 10 ^ a.s)) (a.s + b.s) = normZ (f (a.z * 10 ^ (max a.s b.s - a.s)) (b.z * 10 ^ (max a.s b.s - b.s))) (max a.s b.s) := by
  refine normZ_eq ?_
  rw [← hf, ← hf]
  have e1 : (10 : Int) ^ b.s * 10 ^ max a.s b.s = 10 ^ (max a.s b.s - a.s) * 10 ^ (a.s + b.s) := by
    rw [← Int.pow_add, ← Int.pow_add]; congr 1; omega
  have e2 : (10 : Int) ^ a.s * 10 ^ max a.s b.s = 10 ^ (max a.s b.s - b.s) * 10 ^ (a.s + b.s) := by
    rw [← Int.pow_add, ← Int.pow_add]; congr 1; omega
  rw [Int.mul_assoc, Int.mul_assoc, Int.mul_assoc, Int.mul_assoc, e1, e2]
theorem add_code (a b : Dc) : addD a b = if a.neg = b.neg then norm a.neg (up a (max a.s b.s) + up b (max a.s b.s)) (max a.s b.s) else
    if up b (max a.s b.s) ≤ up a (max a.s b.s) then norm a.neg (up a (max a.s b.s) - up b (max a.s b.s)) (max a.s b.s) else norm b.neg (up b (max a.s b.s) - up a (max a.s b.s)) (max a.s b.s) := by
  have h := add_scale a b (fun x y => x + y) (fun x y c => by rw [Int.add_mul])
  unfold addD
  rw [h, z_up, z_up]
  generalize up a (max a.s b.s) = X
  generalize up b (max a.s b.s) = Y
  cases a.neg <;> cases b.neg
  · simp only [Bool.false_eq_true, if_false, if_true]
    rw [norm_sign]; simp
  · simp only [Bool.false_eq_true, if_false, if_true]
    by_cases hle : Y ≤ X
    · rw [if_pos hle, norm_sign]
      congr 1; simp; omega
    · rw [if_neg hle, norm_sign]
      congr 1; simp; omega
  · simp only [Bool.false_eq_true, reduceCtorEq, if_false, if_true]
    by_cases hle : Y ≤ X
    · rw [if_pos hle, norm_sign]
      congr 1; simp; omega
    · rw [if_neg hle, norm_sign]
      congr 1; simp; omega
  · simp only [if_true]
    rw [norm_sign]
    congr 1; simp; omega
theorem mul_code (a b : Dc) : mulD a b = norm (a.neg != b.neg) (a.n * b.n) (a.s + b.s) := by
  unfold mulD
  rw [norm_sign]
  congr 1
  unfold Dc.z
  cases a.neg <;> cases b.neg <;> simp [Int.neg_mul, Int.mul_neg]
/-- The same below 0, or above. -/
def turn (d : Dc) : Dc := if d.n = 0 then d else ⟨!d.neg, d.n, d.s⟩
theorem z_turn (d : Dc) : (turn d).z = - d.z ∧ (turn d).s = d.s ∧ (turn d).n = d.n := by
  unfold turn Dc.z
  by_cases h : d.n = 0
  · rw [if_pos h, h]; cases d.neg <;> simp
  · rw [if_neg h]; cases d.neg <;> simp
theorem ok_turn {d : Dc} (h : Ok d) : Ok (turn d) := by
  unfold turn
  by_cases h0 : d.n = 0
  · rw [if_pos h0]; exact h
  · rw [if_neg h0]
    exact ⟨h.1, h.2.1, fun h => absurd h h0, h.2.2.2⟩
theorem sub_turn (a b : Dc) : subD a b = addD a (turn b) := by
  obtain ⟨h1, h2, _⟩ := z_turn b
  unfold subD addD
  rw [h1, h2, Int.neg_mul]
  rfl
theorem turn_code {d : Dc} (h : Ok d) : (turn d).neg = (!d.neg && decide (d.n ≠ 0)) := by
  unfold turn
  by_cases h0 : d.n = 0
  · rw [if_pos h0, (h.2.2.1 h0).2, decide_eq_false (fun h => h h0)]; rfl
  · rw [if_neg h0, decide_eq_true h0, Bool.and_true]
/-- The order, as the code computes it. -/
def clamp (x : Int) : Int := min (max x (-1)) 1
theorem clamp_sgn (x : Int) : clamp x = sgn x := by
  unfold clamp
  rcases sgn_cases x with ⟨h, e⟩ | ⟨h, e⟩ | ⟨h, e⟩ <;> rw [e] <;> omega
theorem cmp_code {a b : Dc} (ha : Ok a) (hb : Ok b) : cmpD a b = clamp (if a.neg ≠ b.neg then (if a.neg then -1 else 1) else if a.neg then -(cmpN (up a (max a.s b.s)) (up b (max a.s b.s))) else cmpN (up a (max a.s b.s)) (up b (max a.s b.s))) := by
  rw [clamp_sgn]
  have e1 : (10 : Int) ^ b.s * 10 ^ max a.s b.s = 10 ^ (max a.s b.s - a.s) * 10 ^ (a.s + b.s) := by
    rw [← Int.pow_add, ← Int.pow_add]; congr 1; omega
  have e2 : (10 : Int) ^ a.s * 10 ^ max a.s b.s = 10 ^ (max a.s b.s - b.s) * 10 ^ (a.s + b.s) := by
    rw [← Int.pow_add, ← Int.pow_add]; congr 1; omega
  have h : cmpD a b = sgn (a.z * 10 ^ (max a.s b.s - a.s) - b.z * 10 ^ (max a.s b.s - b.s)) := by
    unfold cmpD
    rw [← sgn_mul (p10 (max a.s b.s)), Int.sub_mul, Int.mul_assoc, Int.mul_assoc, e1, e2, ← Int.mul_assoc, ← Int.mul_assoc, ← Int.sub_mul, sgn_mul (p10 _)]
  rw [h, z_up, z_up]
  have hs := cmpN_sign (up a (max a.s b.s)) (up b (max a.s b.s))
  have ua : up a (max a.s b.s) = 0 → a.neg = false := fun h0 => by
    unfold up at h0
    rcases Nat.mul_eq_zero.1 h0 with h1 | h1
    · exact (ha.2.2.1 h1).2
    · have := n10 (max a.s b.s - a.s); omega
  have ub : up b (max a.s b.s) = 0 → b.neg = false := fun h0 => by
    unfold up at h0
    rcases Nat.mul_eq_zero.1 h0 with h1 | h1
    · exact (hb.2.2.1 h1).2
    · have := n10 (max a.s b.s - b.s); omega
  generalize up a (max a.s b.s) = X at *
  generalize up b (max a.s b.s) = Y at *
  generalize cmpN X Y = C at *
  have sg : ∀ x y : Int, (x < 0 ↔ y < 0) → (0 < x ↔ 0 < y) → sgn x = sgn y := fun x y h1 h2 => by
    rcases sgn_cases x with ⟨a1, a2⟩ | ⟨a1, a2⟩ | ⟨a1, a2⟩ <;> rcases sgn_cases y with ⟨b1, b2⟩ | ⟨b1, b2⟩ | ⟨b1, b2⟩ <;> omega
  cases hna : a.neg <;> cases hnb : b.neg <;> simp only [Bool.false_eq_true, if_false, if_true, ne_eq, not_true_eq_false, not_false_eq_true, reduceCtorEq]
  · exact sg _ _ (by omega) (by omega)
  · have : Y ≠ 0 := fun h0 => by rw [ub h0] at hnb; cases hnb
    exact sg _ _ (by omega) (by omega)
  · have : X ≠ 0 := fun h0 => by rw [ua h0] at hna; cases hna
    exact sg _ _ (by omega) (by omega)
  · exact sg _ _ (by omega) (by omega)
theorem lim_bound {n : Nat} (h : n < 10 ^ 160) : (limbs n).length ≤ 20 := limbs_len (k := 20) (Nat.lt_of_lt_of_le h (by decide))
theorem val_all (n : Nat) : val (digN ((limbs n).length * 9) n) = n := by
  rw [val_digN]
  apply Nat.mod_eq_of_lt
  have h := lval_lt _ (lims_limbs n)
  rw [lval_limbs] at h
  have e : Bs ^ (limbs n).length = 10 ^ ((limbs n).length * 9) := by
    have : Bs = 10 ^ 9 := by decide
    rw [this, ← Nat.pow_mul, Nat.mul_comm]
  rwa [e] at h
theorem up_lt {d : Dc} (h : Ok d) {S : Nat} (hS : S ≤ 60) : up d S < 10 ^ 120 := by
  unfold up
  have h1 : 10 ^ (S - d.s) ≤ 10 ^ 60 := Nat.pow_le_pow_right (by decide) (by omega)
  have h2 : d.n < 10 ^ 60 := h.1
  have e : (10 : Nat) ^ 120 = 10 ^ 60 * 10 ^ 60 := by decide
  rw [e]
  exact Nat.lt_of_le_of_lt (Nat.mul_le_mul_left _ h1) (Nat.mul_lt_mul_of_pos_right h2 (n10 60))
end Go.Proofs.YtpeldjihalldkaaDoor

/- Base of sums and products of layer 1: room for results, contracts said of numbers. -/
namespace Go.Proofs.YtpeldjihalldkaaDoor
open Go Go.RowKit Go.Lib

theorem limLen_le {a b : Nat} (h : b ≤ a) : limLen b ≤ limLen a := by
  rcases Nat.lt_or_ge (limLen a) (limLen b) with h1 | h1
  · have := limbs_mono h1; omega
  · exact h1
def DecPost (w : World) (o : Option Dc) (e : Ending) (w' : World) : Prop := e = .returned (resV o 3) ∧ Kp [] w w'
theorem dec_big {w w' : World} (k : Kp [] w w') {o : Option Dc} (h : o = none) : DecPost w o (.returned (.tuple #[.agg #[.bool false, .string ⟨#[]⟩, .int .i64 0], .int .i64 3])) w' := by subst h; exact ⟨rfl, k⟩
theorem dec_dec {w w' : World} (k : Kp [] w w') {o : Option Dc} {d : Dc} (h : o = some d) : DecPost w o (.returned (.tuple #[.agg #[.bool d.neg, .string ⟨(dtxt d.n).toArray⟩, .int .i64 (d.s : Int)], .int .i64 0])) w' := by subst h; exact ⟨rfl, k⟩
/-- What lies in the memory of a sum: both numbers, and room. -/
def Three (g : Nat) (n1 n2 : Bool) (w : World) : Prop := (w.cell? ⟨g, 0, none⟩ = some (.bool n1) ∧ w.cell? ⟨g + 1, 0, none⟩ = some (.bool n2)) ∧ Room (g + 1 + 1) w
theorem Three.kept {g : Nat} {n1 n2 : Bool} {w w' : World} (h : Three g n1 n2 w) (k : Kp [] w w') : Three g n1 n2 w' := ⟨⟨k.cell h.1.1 (by simp), k.cell h.1.2 (by simp)⟩, h.2.kept k⟩
theorem three_fresh (w : World) (n1 n2 : Bool) (c1 c2 c3 c4 c5 c6 c7 : Value) : Three w.heap.size n1 n2 (((w.alloc (.cells #[.bool n1, c1, c2] 26)).alloc (.cells #[.bool n2, c3, c4] 26)).alloc (.cells #[c5, c6, c7] 26)) := by
  have h0 := ((Cells.fresh w 26 [.bool n1, c1, c2]).alloc (.cells #[.bool n2, c3, c4] 26)).alloc (.cells #[c5, c6, c7] 26)
  have h1 := (Cells.fresh1 w (.cells #[.bool n1, c1, c2] 26) 26 [.bool n2, c3, c4]).alloc (.cells #[c5, c6, c7] 26)
  have h2 := Cells.fresh1 (w.alloc (.cells #[.bool n1, c1, c2] 26)) (.cells #[.bool n2, c3, c4] 26) 26 [c5, c6, c7]
  have e : (w.alloc (.cells #[.bool n1, c1, c2] 26)).heap.size = w.heap.size + 1 := by simp
  rw [e] at h2
  exact ⟨⟨h0.cell 0, h1.cell 0⟩, ⟨_, h2, rfl⟩⟩
theorem far_room {w : World} {g : Nat} (a b c : Value) {p : Addr} {v : Value} (h : w.cell? p = some v) (hp : p.block ≠ g) : (((w.setCell ⟨g, 0, none⟩ a).setCell ⟨g, 1, none⟩ b).setCell ⟨g, 2, none⟩ c).cell? p = some v :=
  ((((Kp.refl [g] w).setCell (p := ⟨g, 0, none⟩) (fun _ => by simp) a).setCell (p := ⟨g, 1, none⟩) (fun _ => by simp) b).setCell (p := ⟨g, 2, none⟩) (fun _ => by simp) c).cell h (by simpa using hp)
theorem far0 {w : World} {g : Nat} {a b c v : Value} (h : w.cell? ⟨g, 0, none⟩ = some v) : (((w.setCell ⟨g + 1 + 1, 0, none⟩ a).setCell ⟨g + 1 + 1, 1, none⟩ b).setCell ⟨g + 1 + 1, 2, none⟩ c).cell? ⟨g, 0, none⟩ = some v := far_room a b c h (by simp; omega)
theorem far1 {w : World} {g : Nat} {a b c v : Value} (h : w.cell? ⟨g + 1, 0, none⟩ = some v) : (((w.setCell ⟨g + 1 + 1, 0, none⟩ a).setCell ⟨g + 1 + 1, 1, none⟩ b).setCell ⟨g + 1 + 1, 2, none⟩ c).cell? ⟨g + 1, 0, none⟩ = some v := far_room a b c h (by simp)
theorem kp_room2 {w w1 : World} (k : Kp [] w w1) (a b c : Value) : Kp [] w (((w1.setCell ⟨w.heap.size + 1 + 1, 0, none⟩ a).setCell ⟨w.heap.size + 1 + 1, 1, none⟩ b).setCell ⟨w.heap.size + 1 + 1, 2, none⟩ c) :=
  ((k.setCell (p := ⟨w.heap.size + 1 + 1, 0, none⟩) (fun h => by simp at h; omega) a).setCell (p := ⟨w.heap.size + 1 + 1, 1, none⟩) (fun h => by simp at h; omega) b).setCell (p := ⟨w.heap.size + 1 + 1, 2, none⟩) (fun h => by simp at h; omega) c
end Go.Proofs.YtpeldjihalldkaaDoor

/- Add of layer 1. -/
namespace Go.Proofs.YtpeldjihalldkaaDoor
open Go Go.RowKit Go.Lib

end Go.Proofs.YtpeldjihalldkaaDoor

/- times of layer 1. -/
namespace Go.Proofs.YtpeldjihalldkaaDoor
open Go Go.RowKit

theorem u64s_set (l : List Nat) (p : Nat) (x : Nat) : u64s (l.set p x) = (u64s l).set p (u64 x) := by simp [u64s, List.map_set]
theorem zeros_u64s (n : Nat) : List.replicate n (Value.int .u64 0) = u64s (List.replicate n 0) := by simp [u64s, u64]
end Go.Proofs.YtpeldjihalldkaaDoor

/- Mul of layer 1. -/
namespace Go.Proofs.YtpeldjihalldkaaDoor
open Go Go.RowKit Go.Lib

/-- Both numbers in memory, and room behind them. -/
def Pair (g : Nat) (c1 c2 : List Value) (w : World) : Prop := Cells w g 26 c1 ∧ Cells w (g + 1) 26 c2 ∧ Room (g + 1 + 1) w
theorem Pair.kept {g : Nat} {c1 c2 : List Value} {w w' : World} (h : Pair g c1 c2 w) (k : Kp [] w w') : Pair g c1 c2 w' := ⟨h.1.keep k (by simp), h.2.1.keep k (by simp), h.2.2.kept k⟩
theorem Pair.kd {g : Nat} {c1 c2 : List Value} {w : World} (h : Pair g c1 c2 w) : Pair g c1 c2 w.drew := h
theorem pair_fresh (w : World) (c1 c2 : List Value) (c5 c6 c7 : Value) : Pair w.heap.size c1 c2 (((w.alloc (.cells c1.toArray 26)).alloc (.cells c2.toArray 26)).alloc (.cells #[c5, c6, c7] 26)) := by
  have h0 := ((Cells.fresh w 26 c1).alloc (.cells c2.toArray 26)).alloc (.cells #[c5, c6, c7] 26)
  have h1 := (Cells.fresh1 w (.cells c1.toArray 26) 26 c2).alloc (.cells #[c5, c6, c7] 26)
  have h2 := Cells.fresh1 (w.alloc (.cells c1.toArray 26)) (.cells c2.toArray 26) 26 [c5, c6, c7]
  have e : (w.alloc (.cells c1.toArray 26)).heap.size = w.heap.size + 1 := by simp
  rw [e] at h2
  exact ⟨h0, h1, ⟨_, h2, rfl⟩⟩
theorem far0j {w : World} {g j : Nat} {a b c v : Value} (h : w.cell? ⟨g, j, none⟩ = some v) : (((w.setCell ⟨g + 1 + 1, 0, none⟩ a).setCell ⟨g + 1 + 1, 1, none⟩ b).setCell ⟨g + 1 + 1, 2, none⟩ c).cell? ⟨g, j, none⟩ = some v := far_room a b c h (by simp; omega)
theorem far1j {w : World} {g j : Nat} {a b c v : Value} (h : w.cell? ⟨g + 1, j, none⟩ = some v) : (((w.setCell ⟨g + 1 + 1, 0, none⟩ a).setCell ⟨g + 1 + 1, 1, none⟩ b).setCell ⟨g + 1 + 1, 2, none⟩ c).cell? ⟨g + 1, j, none⟩ = some v := far_room a b c h (by simp)
theorem NatA.kept {w w' : World} {A : Option Addr} {c n : Nat} (h : NatA w A c n) (k : Kp [] w w') : NatA w' A c n := LimA.kept h k
end Go.Proofs.YtpeldjihalldkaaDoor

/- Layer 1's examples answer true; a text of at most 200 bytes; contracts told in full. -/
namespace Go.Proofs.YtpeldjihalldkaaDoor
open Go Go.RowKit Go.Lib

theorem print_ok {d : Dc} (hd : Ok d) (w : World) : Calls Tryd.prog 71 #[.agg #[.bool d.neg, .string ⟨(dtxt d.n).toArray⟩, .int .i64 (d.s : Int)]] w fun e w' => e = .returned (.string ⟨(printL d).toArray⟩) ∧ Kp [] w w' :=
  print_any w d (by have := length_dtxt_le (k := 60) hd.1 (by decide); omega) (by have := hd.2.1; omega)
/-- A local of the type api.Dec, just made: where it lies, what it is. -/
theorem Kp.loc {S : List Nat} {w w1 : World} (k : Kp S w w1) (a b c : Value) : Kp S w (w1.alloc (.cells #[a, b, c] 26)) ∧ (w1.alloc (.cells #[a, b, c] 26)).cell? ⟨w1.heap.size, 0, none⟩ = some a ∧ (w1.alloc (.cells #[a, b, c] 26)).cell? ⟨w1.heap.size, 1, none⟩ = some b ∧ (w1.alloc (.cells #[a, b, c] 26)).cell? ⟨w1.heap.size, 2, none⟩ = some c := by
  have C := Cells.fresh w1 26 [a, b, c]
  exact ⟨k.alloc _, C.cell 0, C.cell 1, C.cell 2⟩
def YesPost (w : World) (e : Ending) (w' : World) : Prop := e = .returned (.bool true) ∧ Kp [] w w'
theorem ok15 : Ok ⟨false, 15, 0⟩ := ⟨by decide, by decide, by decide, by decide⟩
theorem okA : Ok ⟨false, 1, 1⟩ := ⟨by decide, by decide, by decide, by decide⟩
theorem okB : Ok ⟨false, 2, 1⟩ := ⟨by decide, by decide, by decide, by decide⟩
theorem okC : Ok ⟨true, 5, 1⟩ := ⟨by decide, by decide, by decide, by decide⟩
theorem okE : Ok ⟨false, 4, 0⟩ := ⟨by decide, by decide, by decide, by decide⟩
theorem ok3 : Ok ⟨false, 3, 1⟩ := ⟨by decide, by decide, by decide, by decide⟩
theorem ok2 : Ok ⟨true, 2, 0⟩ := ⟨by decide, by decide, by decide, by decide⟩
/-- At most so many bytes of a text. -/
def fewL (l : List UInt8) : List UInt8 := if 200 < l.length then l.take 200 else l
theorem fewL_len (l : List UInt8) : (fewL l).length ≤ 200 := by
  unfold fewL
  split
  · rw [List.length_take]; omega
  · omega
end Go.Proofs.YtpeldjihalldkaaDoor

/- slices.Reverse of any bytes. -/
namespace Go.Proofs.YtpeldjihalldkaaDoor
open Go Go.RowKit

/-- A list of which k at each end are turned. -/
def revAt {α : Type} [Inhabited α] (L : List α) (k : Nat) : List α := (List.range L.length).map fun i => if i < k ∨ L.length - k ≤ i then L.getD (L.length - 1 - i) default else L.getD i default
theorem length_revAt {α : Type} [Inhabited α] (L : List α) (k : Nat) : (revAt L k).length = L.length := by simp [revAt]
theorem revAt_get {α : Type} [Inhabited α] (L : List α) (k i : Nat) (h : i < L.length) : (revAt L k)[i]? = some (if i < k ∨ L.length - k ≤ i then L.getD (L.length - 1 - i) default else L.getD i default) := by
  unfold revAt
  rw [List.getElem?_map, List.getElem?_range h]
  rfl
theorem revAt_zero {α : Type} [Inhabited α] (L : List α) : revAt L 0 = L := by
  apply List.ext_getElem?
  intro i
  by_cases h : i < L.length
  · rw [revAt_get L 0 i h, if_neg (by omega), List.getD_eq_getElem?_getD, List.getElem?_eq_getElem h]
    rfl
  · rw [List.getElem?_eq_none (by rw [length_revAt]; omega), List.getElem?_eq_none (by omega)]
theorem revAt_end {α : Type} [Inhabited α] (L : List α) (k : Nat) (hk : L.length ≤ 2 * k + 1) : revAt L k = L.reverse := by
  apply List.ext_getElem?
  intro i
  by_cases h : i < L.length
  · rw [revAt_get L k i h, List.getElem?_reverse h]
    by_cases h2 : i < k ∨ L.length - k ≤ i
    · rw [if_pos h2, List.getD_eq_getElem?_getD, List.getElem?_eq_getElem (by omega)]
      rfl
    · rw [if_neg h2, List.getD_eq_getElem?_getD, List.getElem?_eq_getElem (by omega)]
      have e : L.length - 1 - i = i := by omega
      rw [e, List.getElem?_eq_getElem h]
      rfl
  · rw [List.getElem?_eq_none (by rw [length_revAt]; omega), List.getElem?_eq_none (by rw [List.length_reverse]; omega)]
theorem revAt_lo {α : Type} [Inhabited α] (L : List α) (k : Nat) (h : 2 * k + 1 < L.length) : (revAt L k)[k]? = some (L.getD k default) := by
  rw [revAt_get L k k (by omega), if_neg (by omega)]
theorem revAt_hi {α : Type} [Inhabited α] (L : List α) (k : Nat) (h : 2 * k + 1 < L.length) : (revAt L k)[L.length - 1 - k]? = some (L.getD (L.length - 1 - k) default) := by
  rw [revAt_get L k _ (by omega), if_neg (by omega)]
theorem revAt_step {α : Type} [Inhabited α] (L : List α) (k : Nat) (h : 2 * k + 1 < L.length) : ((revAt L k).set k (L.getD (L.length - 1 - k) default)).set (L.length - 1 - k) (L.getD k default) = revAt L (k + 1) := by
  apply List.ext_getElem?
  intro i
  by_cases hi : i < L.length
  · rw [revAt_get L (k + 1) i hi, List.getElem?_set, List.getElem?_set]
    simp only [List.length_set, length_revAt]
    by_cases e1 : L.length - 1 - k = i
    · rw [if_pos e1, if_pos (by omega), if_pos (by omega)]
      have : L.length - 1 - i = k := by omega
      rw [this]
    · rw [if_neg e1]
      by_cases e2 : k = i
      · rw [if_pos e2, if_pos (by omega), if_pos (by omega), e2]
      · rw [if_neg e2, revAt_get L k i hi]
        by_cases e3 : i < k ∨ L.length - k ≤ i
        · rw [if_pos e3, if_pos (by omega)]
        · rw [if_neg e3, if_neg (by omega)]
  · rw [List.getElem?_eq_none (by simp [length_revAt]; omega), List.getElem?_eq_none (by rw [length_revAt]; omega)]

theorem u8s_getD (l : List UInt8) (j : Nat) (h : j < l.length) : (u8s l)[j]? = some (.int .u8 ((l.getD j default).toNat : Int)) := by
  rw [u8s_get l j h, List.getD_eq_getElem?_getD, List.getElem?_eq_getElem h]
  rfl
end Go.Proofs.YtpeldjihalldkaaDoor

/- Int of layer 1. -/
namespace Go.Proofs.YtpeldjihalldkaaDoor
open Go Go.RowKit Go.Lib

/-- Its digits so far, the last one first. -/
def IntI (U u : Nat) (L : List UInt8) : Prop := u ≤ U ∧ dstr U = dstr u ++ L.reverse ∧ L.length ≤ 20
theorem IntI.start {U : Nat} : IntI U U [] := ⟨Nat.le_refl _, by simp, by simp⟩
theorem IntI.next {U u : Nat} {L : List UInt8} (hU : (dstr U).length ≤ 20) (h : IntI U u L) (hu : u ≠ 0) : IntI U (u / 10) (L ++ [dg u]) := by
  obtain ⟨h1, h2, _⟩ := h
  have e : dstr U = dstr (u / 10) ++ (L ++ [dg u]).reverse := by
    rw [h2, dstr_step hu, List.reverse_append]
    simp
  refine ⟨Nat.le_trans (Nat.div_le_self _ _) h1, e, ?_⟩
  have := congrArg List.length e
  rw [List.length_append, List.length_reverse] at this
  omega
theorem IntI.done {U : Nat} {L : List UInt8} (h : IntI U 0 L) : L.reverse = dstr U := h.2.1.symm
theorem dg_int (u : Nat) : Value.int .u8 (48 + (u : Int) % 10) = u8 (dg u) := by
  unfold u8
  rw [dg_toNat]
  congr 1
theorem dg_cell (u : Nat) : [Value.int .u8 (48 + (u : Int) % 10)] = u8s [dg u] := by
  rw [dg_int]
  rfl
theorem one_dg (u : Nat) : ∀ x ∈ [Value.int .u8 (48 + (u : Int) % 10)], x.oneCell' = true := by
  intro x hx
  rw [List.mem_singleton.1 hx]
  rfl
end Go.Proofs.YtpeldjihalldkaaDoor

/- Cmp of layer 1. -/
namespace Go.Proofs.YtpeldjihalldkaaDoor
open Go Go.RowKit Go.Lib

end Go.Proofs.YtpeldjihalldkaaDoor

/- What a parameter of the type api.Dec gives, and three of them in an array. -/
namespace Go.Proofs.YtpeldjihalldkaaDoor
open Go Go.ChangeShapes Go.WideShapes Go.ChangeAt Go.RowKit

theorem bytes_back (s : ByteArray) : (⟨s.data.toList.toArray⟩ : ByteArray) = s := by
  rw [Array.toArray_toList]
/-- A decimal as it came in: any sign, any bytes, any scale. -/
structure RawD where
  neg : Bool
  l : List UInt8
  s : Int
def RawD.v (r : RawD) : Value := .agg #[.bool r.neg, .string ⟨r.l.toArray⟩, .int .i64 r.s]
def RawD.cs (r : RawD) : List Value := [.bool r.neg, .string ⟨r.l.toArray⟩, .int .i64 r.s]
def RawD.ok (r : RawD) : Prop := r.l.length ≤ 9223372036854775807 ∧ -9223372036854775808 ≤ r.s ∧ r.s ≤ 9223372036854775807
section
variable {W : World} {H : Type} {enc : TypeId × Value → H}
set_option maxRecDepth 100000 in
theorem dec_fuel {cs : List Value} {fuel : Nat} {x : DataW H × List MemPlace} (h : DataW.trod enc Tryd.prog W 0 (fun _ => true) true fuel 26 cs = some x) :
    ∃ r : RawD, cs = r.cs ∧ r.ok := by
  obtain ⟨xs, n, rfl, _, hl, hx, hall⟩ := DataW.trod_struct Tryd.underlying26 h
  have hl3 : cs.length = 3 := by rw [hl]; kernel_rfl
  have c1 : Tryd.prog.cellsOf 3 = 1 := by kernel_rfl
  have c2 : Tryd.prog.cellsOf 9 = 1 := by kernel_rfl
  have c3 : Tryd.prog.cellsOf 4 = 1 := by kernel_rfl
  match cs, hl3 with
  | [v0, v1, v2], _ =>
    have hx3 : xs.length = 3 := hx
    match xs, hx3 with
    | [x0, x1, x2], _ =>
      have g0 := hall 0 _ rfl
      have g1 := hall 1 _ rfl
      have g2 := hall 2 _ rfl
      simp only [List.getElem?_cons_zero, List.getElem?_cons_succ] at g0 g1 g2
      obtain ⟨b, e0, _⟩ := DataW.trod_bool Tryd.underlying4 g0
      obtain ⟨s, e1, _, w1⟩ := DataW.trod_string Tryd.underlying9 g1
      obtain ⟨z, e2, _, w2⟩ := DataW.trod_int Tryd.underlying3 g2
      injection e0 with e0
      injection e1 with e1
      injection e2 with e2
      subst e0 e1 e2
      refine ⟨⟨b, s.data.toList, z⟩, ?_, ?_, wf_i64 w2⟩
      · show [Value.bool b, .string s, .int .i64 z] = [Value.bool b, .string ⟨s.data.toList.toArray⟩, .int .i64 z]
        rw [Array.toArray_toList]
      · show s.data.toList.length ≤ _
        unfold maxLen at w1
        exact w1
theorem open_dec {v : Value} {d : DataW H} {p : List MemPlace} (hok : ∃ cs, v = .agg cs ∧ cs.size = Tryd.prog.cellsOf 26) (h : DataW.Trod enc Tryd.prog W 0 (fun _ => true) true 26 v d p) :
    ∃ (b : Bool) (l : List UInt8) (z : Int), v = .agg #[.bool b, .string ⟨l.toArray⟩, .int .i64 z] ∧ l.length ≤ 9223372036854775807 ∧ -9223372036854775808 ≤ z ∧ z ≤ 9223372036854775807 := by
  obtain ⟨cs, rfl, _⟩ := hok
  obtain ⟨fuel, hf⟩ := h
  obtain ⟨r, h1, h2⟩ := dec_fuel hf
  have h1' : cs.toList = _ := h1
  refine ⟨r.neg, r.l, r.s, ?_, h2⟩
  rw [show cs = cs.toList.toArray from by simp, h1']
  rfl
end
end Go.Proofs.YtpeldjihalldkaaDoor

/- Sub of layer 1. -/
namespace Go.Proofs.YtpeldjihalldkaaDoor
open Go Go.RowKit Go.Lib

theorem dtxt_ne {n : Nat} (h : n ≠ 0) : dtxt n ≠ [48] := fun e => h (dtxt_inj (b := 0) e)
end Go.Proofs.YtpeldjihalldkaaDoor

/- Layer 1: what the laws lean on: whole numbers, May and Sub told in full, a local that was filled. -/
namespace Go.Proofs.YtpeldjihalldkaaDoor
open Go Go.RowKit Go.Lib

theorem ok_i64 {n : Int} (hn : -9223372036854775808 ≤ n ∧ n ≤ 9223372036854775807) : Ok (intD n) := ok_int (by
  have : n.natAbs ≤ 9223372036854775808 := by omega
  exact Nat.lt_of_le_of_lt this (by unfold topN; decide))
/-- A decimal that may be, as it came in. -/
theorem RawD.is {r : RawD} (h : mayL r.neg r.l r.s = true) : ∃ d, Ok d ∧ r = ⟨d.neg, dtxt d.n, (d.s : Int)⟩ := by
  obtain ⟨d, hd, e1, e2, e3⟩ := (may_iff _ _ _).1 h
  refine ⟨d, hd, ?_⟩
  obtain ⟨a, b, c⟩ := r
  dsimp only at e1 e2 e3
  rw [e1, e2, e3]
/-- Room that was filled. -/
theorem Room.done {w W : World} {g : Nat} (h : Room g W) (k : Kp [] w W) (hg : w.heap.size ≤ g) (a b c : Value) :
    Kp [] w (((W.setCell ⟨g, 0, none⟩ a).setCell ⟨g, 1, none⟩ b).setCell ⟨g, 2, none⟩ c) ∧ (((W.setCell ⟨g, 0, none⟩ a).setCell ⟨g, 1, none⟩ b).setCell ⟨g, 2, none⟩ c).cell? ⟨g, 0, none⟩ = some a ∧
      (((W.setCell ⟨g, 0, none⟩ a).setCell ⟨g, 1, none⟩ b).setCell ⟨g, 2, none⟩ c).cell? ⟨g, 1, none⟩ = some b ∧ (((W.setCell ⟨g, 0, none⟩ a).setCell ⟨g, 1, none⟩ b).setCell ⟨g, 2, none⟩ c).cell? ⟨g, 2, none⟩ = some c := by
  obtain ⟨cs, hc, hl⟩ := h
  match cs, hl with
  | [p, q, r], _ =>
    have h1 := ((hc.put 0 a).put 1 b).put 2 c
    exact ⟨((k.setCell (p := ⟨g, 0, none⟩) (fun h => by simp at h; omega) a).setCell (p := ⟨g, 1, none⟩) (fun h => by simp at h; omega) b).setCell (p := ⟨g, 2, none⟩) (fun h => by simp at h; omega) c, h1.cell 0, h1.cell 1, h1.cell 2⟩
end Go.Proofs.YtpeldjihalldkaaDoor

/- Layer 1: results by letters, whether refused or not. -/
namespace Go.Proofs.YtpeldjihalldkaaDoor
open Go Go.RowKit Go.Lib

/-- What a result is, cell by cell. -/
def oN : Option Dc → Bool | some d => d.neg | none => false
def oL : Option Dc → List UInt8 | some d => dtxt d.n | none => []
def oS : Option Dc → Int | some d => (d.s : Int) | none => 0
def oE : Option Dc → Int | some _ => 0 | none => 3
theorem oE_or (o : Option Dc) : oE o = 0 ∨ oE o = 3 := by cases o <;> simp [oE]
theorem resV_is (o : Option Dc) : resV o 3 = .tuple #[.agg #[.bool (oN o), .string ⟨(oL o).toArray⟩, .int .i64 (oS o)], .int .i64 (oE o)] := by cases o <;> rfl
/-- A call that hands back what O is. -/
def Gives (f : Nat) (args : Array Value) (O : Option Dc) : Prop := ∀ W, Calls Tryd.prog f args W fun e w' => e = .returned (.tuple #[.agg #[.bool (oN O), .string ⟨(oL O).toArray⟩, .int .i64 (oS O)], .int .i64 (oE O)]) ∧ Kp [] W w'
theorem Gives.some {f : Nat} {args : Array Value} {d : Dc} (h : Gives f args (some d)) (W : World) : Calls Tryd.prog f args W fun e w' => e = .returned (.tuple #[.agg #[.bool d.neg, .string ⟨(dtxt d.n).toArray⟩, .int .i64 (d.s : Int)], .int .i64 0]) ∧ Kp [] W w' := h W
theorem none_or (O : Option Dc) : O = none ∨ ∃ d, O = some d := by cases O <;> simp
theorem some_of {O : Option Dc} {d : Dc} (h : O = some d) : d.neg = oN O ∧ dtxt d.n = oL O ∧ (d.s : Int) = oS O := by subst h; exact ⟨rfl, rfl, rfl⟩
theorem some_err {O : Option Dc} {d : Dc} (h : O = some d) : (oE O == 0) = true ∧ (oE O != 0) = false ∧ oE O = 0 := by subst h; exact ⟨rfl, rfl, rfl⟩
theorem none_err {O : Option Dc} (h : O = none) : (oE O == 0) = false ∧ (oE O != 0) = true ∧ oE O = 3 := by subst h; exact ⟨rfl, rfl, rfl⟩
end Go.Proofs.YtpeldjihalldkaaDoor

