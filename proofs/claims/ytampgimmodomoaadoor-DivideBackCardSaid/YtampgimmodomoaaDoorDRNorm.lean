/- The document's answer for layer 1: digit, zeros, Norm. -/
import Derived.Test.YtampgimmodomoaaDoorDReads
import Derived.Test.YtampgimmodomoaaDoorDGround
namespace Go.Proofs.YtampgimmodomoaaDoor
open Go Go.RowKit

theorem rdigit_any (w : World) (m : Nat) (_ : m < 256) : Calls Tryd.prog 56 #[.int .u8 (m : Int)] w fun e w' => e = .returned (.bool (decide (48 ≤ m ∧ m ≤ 57))) ∧ w' = w := by
  obtain ⟨b, hb⟩ : ∃ b, b = decide (48 ≤ m ∧ m ≤ 57) := ⟨_, rfl⟩
  rw [← hb]
  have HB := hid hb
  clear hb
  by_cases h1 : 48 ≤ m
  · by_cases h2 : m ≤ 57
    · have HD := hid (HB.out.trans (decide_eq_true (And.intro h1 h2)))
      have b2 : decide ((m : Int) ≤ 57) = true := decide_eq_true (by omega)
      go_enter Tryd.func56, Tryd.ntmps56
      go_wp2_with fail
      go_ret
      exact ⟨by rw [HD.out]; rfl, rfl⟩
    · have HD := hid (HB.out.trans (decide_eq_false (p := 48 ≤ m ∧ m ≤ 57) (fun h => h2 h.2)))
      have b2 : decide ((m : Int) ≤ 57) = false := decide_eq_false (by omega)
      go_enter Tryd.func56, Tryd.ntmps56
      go_wp2_with fail
      go_ret
      exact ⟨by rw [HD.out]; rfl, rfl⟩
  · have HD := hid (HB.out.trans (decide_eq_false (p := 48 ≤ m ∧ m ≤ 57) (fun h => h1 h.1)))
    go_enter Tryd.func56, Tryd.ntmps56
    go_wp2_with fail
    go_ret
    exact ⟨by rw [HD.out]; rfl, rfl⟩
set_option maxRecDepth 100000 in
set_option maxHeartbeats 1600000 in
theorem rzeros_any (w : World) (n : Nat) (hn : n ≤ 1000000) : Calls Tryd.prog 66 #[.int .i64 (n : Int)] w fun e w' => e = .returned (.string ⟨(List.replicate n 48).toArray⟩) ∧ w' = w := by
  go_enter Tryd.func66, Tryd.ntmps66
  go_wp2_with fail
  go_loopw [3, 4] (fun vs vi wr => wr = w ∧ ∃ i : Nat, vs = .string ⟨(List.replicate i 48).toArray⟩ ∧ vi = .int .i64 (i : Int) ∧ i ≤ n) (fun _ vi _ => n - (intOf vi).toNat)
  case atStart => exact ⟨rfl, 0, rfl, rfl, Nat.zero_le _⟩
  case round =>
    obtain ⟨hwr, i, rfl, rfl, hi⟩ := hrel
    have hwr2 := hwr.symm
    subst hwr2
    by_cases hlt : i < n
    · have ha : ∀ X, (Op.stringOp .add ⟨(List.replicate i 48).toArray⟩ ⟨#[48]⟩).run Tryd.prog X = .ok (.string ⟨(List.replicate (i + 1) 48).toArray⟩) X := fun X => run_add_text (P := Tryd.prog) (List.replicate i 48) [48] (List.replicate (i + 1) 48) (by rw [List.replicate_succ']) (by simp; omega) X
      obtain ⟨R, hR⟩ : ∃ R : List UInt8, R = List.replicate i 48 := ⟨_, rfl⟩
      obtain ⟨R2, hR2⟩ : ∃ R2 : List UInt8, R2 = List.replicate (i + 1) 48 := ⟨_, rfl⟩
      simp only [← hR, ← hR2] at ha ⊢
      have H2 := hid hR2
      clear hR hR2
      go_wp2_with fail
      go_roundw
      case rel => exact ⟨trivial, i + 1, by rw [H2.out], by go_num, by omega⟩
      case measure => simp [intOf]; omega
    · have e : i = n := by omega
      subst e
      go_wp2_with fail
      go_ret
      exact ⟨rfl, rfl⟩
def strLen (v : Value) : Nat := match v with | .string s => s.size | _ => 0
theorem drop_one (t : List UInt8) : (48 :: t).dropWhile (· == 48) = t.dropWhile (· == 48) := rfl
theorem drop_stop {c : UInt8} (t : List UInt8) (h : c.toNat ≠ 48) : (c :: t).dropWhile (· == 48) = c :: t := by
  rw [List.dropWhile_cons, if_neg]
  intro h2
  have := beq_iff_eq.1 h2
  subst this
  exact h rfl
theorem byte_48 {c : UInt8} (h : c.toNat = 48) : c = 48 := UInt8.toNat_inj.1 (by rw [h]; rfl)
/-- The last digit. -/
theorem dstr_last {D : List UInt8} {n K : Nat} (hD : D = dstr n) (h : n ≠ 0) (hK : D.length = K + 1) (g : K < (⟨D.toArray⟩ : ByteArray).size) : ((⟨D.toArray⟩ : ByteArray)[K]'g).toNat = 48 + n % 10 := by
  subst hD
  rw [← dg_toNat]
  have e : (dstr n)[K]? = some (dg n) := by
    have hs := dstr_step h
    have hl := congrArg List.length hs
    rw [hK, List.length_append, List.length_singleton] at hl
    rw [hs, List.getElem?_append_right (by omega), show K - (dstr (n / 10)).length = 0 by omega]
    rfl
  obtain ⟨h1, h2⟩ := List.getElem?_eq_some_iff.1 e
  exact congrArg UInt8.toNat h2
set_option maxRecDepth 100000 in
set_option maxHeartbeats 6400000 in
theorem rnorm_any (w : World) (neg : Bool) (l : List UInt8) (hl : Digs l) (hs : l.length ≤ 1000000) (S : Nat) (hS : S ≤ 1000000) :
    Calls Tryd.prog 62 #[.bool neg, .string ⟨l.toArray⟩, .int .i64 (S : Int)] w (MadePost w (norm neg (val l) S)) := by
  have hdz := dropZeros l hl
  obtain ⟨N, hN⟩ : ∃ N, N = val l := ⟨_, rfl⟩
  rw [← hN] at hdz ⊢
  obtain ⟨O, hO⟩ : ∃ O, O = norm neg N S := ⟨_, rfl⟩
  rw [← hO]
  have HO := hid hO
  have Hdz := hid hdz
  clear hN hO hdz hl
  go_enter Tryd.func62, Tryd.ntmps62
  go_wp2_with fail
  go_loopw [1] (fun v wr => wr = w.alloc (.cells #[.bool false, .string ⟨#[]⟩, .int .i64 0] 23) ∧ ∃ m : List UInt8, v = .string ⟨m.toArray⟩ ∧ m.length ≤ 1000000 ∧ m.dropWhile (· == 48) = dstr N) (fun v _ => strLen v)
  case atStart => exact ⟨rfl, l, rfl, hs, Hdz.out⟩
  case round =>
    obtain ⟨rfl, m, rfl, hm, hd⟩ := hrel
    have hsz : (⟨m.toArray⟩ : ByteArray).size = m.length := size_mk _
    by_cases hgo : ∃ t, m = 48 :: t
    · obtain ⟨t, rfl⟩ := hgo
      rw [drop_one] at hd
      have hx := extract_mk (48 :: t) 1 (t.length + 1)
      have e1 : ((48 :: t).take (t.length + 1)).drop 1 = t := by simp
      rw [e1] at hx
      have hml : t.length + 1 ≤ 1000000 := hm
      obtain ⟨M, hM⟩ : ∃ M : List UInt8, M = 48 :: t := ⟨_, rfl⟩
      rw [List.length_cons] at hsz
      simp only [← hM] at hsz hx ⊢
      have i0 : ∀ g : 0 < (⟨M.toArray⟩ : ByteArray).size, ((⟨M.toArray⟩ : ByteArray)[0]'g).toNat = 48 := fun g => by subst hM; rfl
      have Hd := hid hd
      clear hM hd hm
      go_wp2_with fail
      go_roundw
      case rel => exact ⟨trivial, t, rfl, by omega, Hd.out⟩
      case measure => simp [strLen, hsz, size_mk]
    · obtain ⟨q, hq⟩ : ∃ q, q = (m.headD 0).toNat := ⟨_, rfl⟩
      have i0 : ∀ g : 0 < (⟨m.toArray⟩ : ByteArray).size, ((⟨m.toArray⟩ : ByteArray)[0]'g).toNat = q := fun g => by
        rw [hq]
        cases m with
        | nil => cases g
        | cons c t => rfl
      have hq2 : q < 256 := by rw [hq]; exact (m.headD 0).toNat_lt
      have hq8 : q ≠ 48 := fun h => hgo (by
        cases m with
        | nil => rw [hq] at h; cases h
        | cons c t => exact ⟨t, by rw [show c = 48 from byte_48 (by rw [hq] at h; exact h)]⟩)
      have hd2 : m = dstr N := by
        rw [← hd]
        cases m with
        | nil => rfl
        | cons c t => exact (drop_stop t (by rw [hq] at hq8; exact hq8)).symm
      have b1 : ((q : Int) == 48) = false := by rw [beq_eq_false_iff_ne]; omega
      have HM := hid hd2
      clear hd2 hgo hd hq
      go_upto_region 3 with fail
      all_goals
        go_loopw [1, 2] (fun v vs wr => wr = w.alloc (.cells #[.bool false, .string ⟨#[]⟩, .int .i64 0] 23) ∧ ∃ n s : Nat, v = .string ⟨(dstr n).toArray⟩ ∧ vs = .int .i64 (s : Int) ∧ s ≤ S ∧ (dstr n).length ≤ 1000000 ∧ redN n s = redN N S) (fun _ vs _ => (intOf vs).toNat)
        case atStart => exact ⟨rfl, N, S, by rw [HM.out], rfl, Nat.le_refl _, by rw [← HM.out]; exact hm, rfl⟩
        case round =>
          clear hsz b1 i0 hq2 hq8 hm HM
          obtain ⟨rfl, n, s, rfl, rfl, hs, hl, hr⟩ := hrel
          have hsz : (⟨(dstr n).toArray⟩ : ByteArray).size = (dstr n).length := size_mk _
          have hnr := fun h => norm_red (neg := neg) (N := N) (S := S) (n := n) (s := s) h
          rw [← HO.out] at hnr
          rw [← hr] at hnr
          have Hr := hid hr
          clear hr
          by_cases hgo : 0 < s ∧ n ≠ 0 ∧ n % 10 = 0
          · obtain ⟨g1, g2, g3⟩ := hgo
            obtain ⟨t, rfl⟩ : ∃ t, s = t + 1 := ⟨s - 1, by omega⟩
            have hcut := dstr_cut g2
            obtain ⟨K, hK⟩ : ∃ K, (dstr n).length = K + 1 := ⟨(dstr n).length - 1, by
              have := length_dtxt n
              unfold dtxt at this
              rw [if_neg g2] at this
              omega⟩
            have hex := extract_mk (dstr n) 0 K
            rw [hK, Nat.add_sub_cancel] at hcut
            rw [List.drop_zero, hcut] at hex
            have hl2 : (dstr (n / 10)).length ≤ 1000000 := by rw [← hcut, List.length_take]; omega
            have Hr2 : Hid (redN (n / 10) t = redN N S) := by rw [← Hr.out, redN_go ⟨g2, g3⟩]; exact hid rfl
            obtain ⟨D, hD⟩ : ∃ D, D = dstr n := ⟨_, rfl⟩
            have hlast := dstr_last hD g2 (by rw [hD]; exact hK)
            rw [g3] at hlast
            rw [hK] at hsz hl
            have Hl2 := hid hl2
            clear hnr hcut hK hl2 Hr g2 g3
            obtain ⟨D2, hD2⟩ : ∃ D2, D2 = dstr (n / 10) := ⟨_, rfl⟩
            simp only [← hD, ← hD2] at hsz hex ⊢
            have HD2 := hid hD2
            clear hD2 hD
            go_wp2_with fail
            go_roundw
            case rel => exact ⟨trivial, n / 10, t, by rw [HD2.out], by go_num, by omega, Hl2.out, Hr2.out⟩
            case measure => simp [intOf]
          · have hend : redN n s = (n, s) := by
              cases s with
              | zero => rfl
              | succ t => exact redN_stop (fun h => hgo ⟨by omega, h⟩)
            have hO := hnr hend
            have hlen := length_dstr_iff (n := n) (k := 60)
            obtain ⟨D, hD⟩ : ∃ D, D = dstr n := ⟨_, rfl⟩
            have hwhy : s = 0 ∨ (0 < s ∧ n = 0) ∨ (0 < s ∧ n ≠ 0 ∧ ∃ K q : Nat, D.length = K + 1 ∧ q ≠ 48 ∧ q < 256 ∧ ∀ g : K < (⟨D.toArray⟩ : ByteArray).size, ((⟨D.toArray⟩ : ByteArray)[K]'g).toNat = q) := by
              rcases Nat.eq_zero_or_pos s with h | h
              · exact .inl h
              · by_cases h0 : n = 0
                · exact .inr (.inl ⟨h, h0⟩)
                · have hK : D.length = (D.length - 1) + 1 := by
                    have := length_dtxt n
                    unfold dtxt at this
                    rw [if_neg h0, ← hD] at this
                    omega
                  refine .inr (.inr ⟨h, h0, _, 48 + n % 10, hK, fun h8 => hgo ⟨h, h0, by omega⟩, by omega, dstr_last hD h0 hK⟩)
            clear hnr hend Hr hgo
            simp only [← hD] at hsz hl hlen ⊢
            have HD := hid hD
            rcases (show n = 0 ∨ (n ≠ 0 ∧ 60 < D.length) ∨ (n ≠ 0 ∧ D.length ≤ 60 ∧ 60 < s) ∨ (n ≠ 0 ∧ D.length ≤ 60 ∧ s ≤ 60) from by omega) with h | ⟨h, h1⟩ | ⟨h, h1, h2⟩ | ⟨h, h1, h2⟩
            · have hD0 : D = [] := by rw [HD.out, h]; rfl
              subst hD0
              have HO2 : Hid (O = some ⟨false, 0, 0⟩) := by rw [hO, if_pos h]; exact hid rfl
              clear hO hD hlen
              rcases hwhy with g0 | ⟨g0, g1⟩ | ⟨g0, g1, K, q, hK, q1, q2, q3⟩
              · subst g0
                go_wp2_with fail
                exact bodyPost_ret (v := .tuple #[.agg #[.bool false, .string ⟨#[48]⟩, .int .i64 0], .int .i64 0]) (by simp [results, Tryd.results62, go_sem]) rfl (made_zero ((Kp.refl _ _).alloc _) HO2.out)
              · have gs : decide ((0 : Int) < (s : Int)) = true := decide_eq_true (by omega)
                go_wp2_with fail
                exact bodyPost_ret (v := .tuple #[.agg #[.bool false, .string ⟨#[48]⟩, .int .i64 0], .int .i64 0]) (by simp [results, Tryd.results62, go_sem]) rfl (made_zero ((Kp.refl _ _).alloc _) HO2.out)
              · exact absurd g1 (by omega)
            · have HO2 : Hid (O = none) := by rw [hO, if_neg h, if_pos (.inl (Nat.le_of_not_lt (fun hh => by have := hlen.2 hh; omega)))]; exact hid rfl
              have hD1 : D ≠ [] := by rw [hD]; intro e; exact h (dstr_nil.1 e)
              have hE : D.isEmpty = false := by cases D with | nil => exact absurd rfl hD1 | cons _ _ => rfl
              have hE2 : (D == []) = false := by cases D with | nil => exact absurd rfl hD1 | cons _ _ => rfl
              have hB : decide ((60 : Int) < (D.length : Int)) = true := decide_eq_true (by omega)
              clear hO hlen hD
              rcases hwhy with g0 | ⟨g0, g1⟩ | ⟨g0, g1, K, q, hK, q1, q2, q3⟩
              · subst g0
                go_wp2_with fail
                exact bodyPost_ret (v := .tuple #[.agg #[.bool false, .string ⟨#[]⟩, .int .i64 0], .int .i64 3]) (by simp [results, Tryd.results62, go_sem]) rfl (made_none ((Kp.refl _ _).alloc _) HO2.out)
              · exact absurd g1 (by omega)
              · have gs : decide ((0 : Int) < (s : Int)) = true := decide_eq_true (by omega)
                have gq : ((q : Int) == 48) = false := by rw [beq_eq_false_iff_ne]; omega
                rw [hK] at hsz hl h1 hB
                clear hK
                go_wp2_with fail
                exact bodyPost_ret (v := .tuple #[.agg #[.bool false, .string ⟨#[]⟩, .int .i64 0], .int .i64 3]) (by simp [results, Tryd.results62, go_sem]) rfl (made_none ((Kp.refl _ _).alloc _) HO2.out)
            · have HO2 : Hid (O = none) := by rw [hO, if_neg h, if_pos (.inr h2)]; exact hid rfl
              have hD1 : D ≠ [] := by rw [hD]; intro e; exact h (dstr_nil.1 e)
              have hE : D.isEmpty = false := by cases D with | nil => exact absurd rfl hD1 | cons _ _ => rfl
              have hE2 : (D == []) = false := by cases D with | nil => exact absurd rfl hD1 | cons _ _ => rfl
              have hB : decide ((60 : Int) < (D.length : Int)) = false := decide_eq_false (by omega)
              clear hO hlen hD
              rcases hwhy with g0 | ⟨g0, g1⟩ | ⟨g0, g1, K, q, hK, q1, q2, q3⟩
              · omega
              · exact absurd g1 (by omega)
              · have gs : decide ((0 : Int) < (s : Int)) = true := decide_eq_true (by omega)
                have gq : ((q : Int) == 48) = false := by rw [beq_eq_false_iff_ne]; omega
                rw [hK] at hsz hl h1 hB
                clear hK
                go_wp2_with fail
                exact bodyPost_ret (v := .tuple #[.agg #[.bool false, .string ⟨#[]⟩, .int .i64 0], .int .i64 3]) (by simp [results, Tryd.results62, go_sem]) rfl (made_none ((Kp.refl _ _).alloc _) HO2.out)
            · have hlt : n < 10 ^ 60 := hlen.1 h1
              have HO2 : Hid (O = some ⟨neg, n, s⟩) := by rw [hO, if_neg h, if_neg (by show ¬ (10 ^ 60 ≤ n ∨ 60 < s); omega)]; exact hid rfl
              clear hlt
              have hD1 : D ≠ [] := by rw [hD]; intro e; exact h (dstr_nil.1 e)
              have hE : D.isEmpty = false := by cases D with | nil => exact absurd rfl hD1 | cons _ _ => rfl
              have hE2 : (D == []) = false := by cases D with | nil => exact absurd rfl hD1 | cons _ _ => rfl
              have hB : decide ((60 : Int) < (D.length : Int)) = false := decide_eq_false (by omega)
              clear hO hlen hD
              rcases hwhy with g0 | ⟨g0, g1⟩ | ⟨g0, g1, K, q, hK, q1, q2, q3⟩
              · subst g0
                go_wp2_with fail
                exact bodyPost_ret (v := .tuple #[.agg #[.bool neg, .string ⟨D.toArray⟩, .int .i64 0], .int .i64 0]) (by simp [results, Tryd.results62, go_sem]) rfl (by rw [HD.out]; exact made_some ((Kp.refl _ _).alloc _) h HO2.out)
              · exact absurd g1 (by omega)
              · have gs : decide ((0 : Int) < (s : Int)) = true := decide_eq_true (by omega)
                have gq : ((q : Int) == 48) = false := by rw [beq_eq_false_iff_ne]; omega
                rw [hK] at hsz hl h1 hB
                clear hK
                go_wp2_with fail
                exact bodyPost_ret (v := .tuple #[.agg #[.bool neg, .string ⟨D.toArray⟩, .int .i64 (s : Int)], .int .i64 0]) (by simp [results, Tryd.results62, go_sem]) rfl (by rw [HD.out]; exact made_some ((Kp.refl _ _).alloc _) h HO2.out)
end Go.Proofs.YtampgimmodomoaaDoor
