/- QuoteBack: what was quoted is unquoted as it was. -/
import Derived.Test.YtdmajeidggjalaaDoorQLists
namespace Go.Proofs.YtdmajeidggjalaaDoor
open Go Go.RowKit

set_option maxRecDepth 100000 in
set_option maxHeartbeats 6400000 in
theorem back_any (w : World) (hT : Tabs w) (s : ByteArray) (hs : s.size ≤ maxLen) (more : ByteArray) (hm : more.size ≤ maxLen) (a : Int) (ha : -9223372036854775808 ≤ a ∧ a ≤ 9223372036854775807) :
    Calls Tryd.prog 4 #[.string s, .string more, .int .i64 a] w (YesPost w) := by
  have hs2 : s.size ≤ 9223372036854775807 := hs
  have hm2 : more.size ≤ 9223372036854775807 := hm
  obtain ⟨ha1, ha2⟩ := ha
  clear hs hm
  go_enter Tryd.func4, Tryd.ntmps4
  go_wp2_with fail
  refine (shown_any w hT).mono ?_
  rintro e w1 ⟨rfl, k1⟩
  have hT1 := hT.kept k1
  go_upto_if 21 with fail
  go_cut [0] (fun v wx => v = .string (fewL 1000 s) ∧ wx = w1)
  case first =>
    by_cases h : 1000 < s.size
    · have hf := hid (show fewL 1000 s = s.extract 0 1000 from if_pos h)
      go_wp2_with fail
      go_meet
      exact ⟨by rw [hf.out], rfl⟩
    · have hf := hid (show fewL 1000 s = s from if_neg h)
      go_wp2_with fail
      go_meet
      exact ⟨by rw [hf.out], rfl⟩
  case' rest => obtain ⟨rfl, hwc⟩ := hcut
  case' rest => subst wc
  case' rest => go_upto_if 26 with fail
  case' rest => go_cut [1] (fun v wx => v = .string (fewL 1000 more) ∧ wx = w1)
  case first =>
    by_cases h : 1000 < more.size
    · have hf := hid (show fewL 1000 more = more.extract 0 1000 from if_pos h)
      go_wp2_with fail
      go_meet
      exact ⟨by rw [hf.out], rfl⟩
    · have hf := hid (show fewL 1000 more = more from if_neg h)
      go_wp2_with fail
      go_meet
      exact ⟨by rw [hf.out], rfl⟩
  case' rest => obtain ⟨rfl, hwc⟩ := hcut
  case' rest => subst wc
  case' rest => obtain ⟨S, hl, hls, hfew⟩ := few_list 1000 s
  case' rest => rw [hfew]
  case' rest => clear hfew
  case' rest => obtain ⟨M, ml, mls, hfew⟩ := few_list 1000 more
  case' rest => rw [hfew]
  case' rest => clear hfew
  case' rest => have vS := fun W hW => valid_l W S (by omega) hW
  case' rest => obtain ⟨V, hV⟩ : ∃ V, V = Lib.validD S := ⟨_, rfl⟩
  case' rest => simp only [← hV] at vS
  case' rest => have HV := hid hV
  case' rest => clear hV
  case' rest => go_upto_if 30 with fail
  case' rest => refine (vS _ hT1).mono ?_
  case' rest => rintro e w2 ⟨rfl, k2⟩
  case' rest => have hT2 := hT1.kept k2
  case' rest => go_upto_if 30 with fail
  case' rest => go_cut [] (fun wx => Kp [] w wx)
  case first =>
    have bl := body_len S
    have ql : (quoteL S).length = (body S).length + 2 := length_quoteL S
    cases V with
    | false =>
      have HF := hid (k1.nil k2)
      clear k2
      go_wp2_with fail
      go_meet
      exact HF.out
    | true =>
      have hval : Lib.validD S = true := HV.out.symm
      have uq := unq_back S M hval (by omega)
      have uc := unq_cut S hval
      have qS := fun W => quote_l W S (by omega) hval
      have vq := valid_quote S hval
      obtain ⟨Q, hQ⟩ : ∃ Q, Q = quoteL S := ⟨_, rfl⟩
      rw [← hQ] at ql uq vq
      simp only [← hQ] at qS uc
      have hadd := fun W => run_add_text (P := Tryd.prog) Q M (Q ++ M) rfl (by omega) W
      have uQ := fun W hW => unq_l W (Q ++ M) (by rw [List.length_append]; omega) hW
      unfold UnqPost at uQ
      rw [uq] at uQ
      have vQ := fun W hW => valid_l W Q (by omega) hW
      rw [vq] at vQ
      have hsz : (⟨Q.toArray⟩ : ByteArray).size = Q.length := size_mk Q
      clear hval uq vq hQ
      have Huc := hid uc
      clear uc
      rcases (show (∃ K : Nat, a = (K : Int) ∧ K < Q.length) ∨ a < 0 ∨ (0 ≤ a ∧ (Q.length : Int) ≤ a) from by
        rcases (show (0 ≤ a ∧ a < (Q.length : Int)) ∨ a < 0 ∨ (0 ≤ a ∧ (Q.length : Int) ≤ a) from by omega) with h | h
        · exact .inl ⟨a.toNat, by omega, by omega⟩
        · exact .inr h) with ⟨K, rfl, hK⟩ | h | ⟨h, h9⟩
      · have hcutq := Huc.out K hK
        have uK := fun W hW => unq_l W (Q.take K) (by rw [List.length_take]; omega) hW
        unfold UnqPost at uK
        rw [hcutq] at uK
        have hext : (⟨Q.toArray⟩ : ByteArray).extract 0 K = ⟨(Q.take K).toArray⟩ := by rw [extract_list]; simp
        clear hcutq
        go_wp2_with fail
        refine (qS _).mono ?_
        rintro e w3 ⟨rfl, k3⟩
        have hT3 := hT2.kept k3
        go_wp2_with fail
        refine (uQ _ hT3).mono ?_
        rintro e w4 ⟨rfl, k4⟩
        have hT4 := hT3.kept k4
        go_wp2_with fail
        refine (vQ _ hT4).mono ?_
        rintro e w5 ⟨rfl, k5⟩
        have hT5 := hT4.kept k5
        go_wp2_with fail
        refine (uK _ hT5).mono ?_
        rintro e w6 ⟨rfl, k6⟩
        have HF := hid (((((k1.nil k2).nil k3).nil k4).nil k5).nil k6)
        clear k2 k3 k4 k5 k6
        go_wp2_with fail
        go_meet
        exact HF.out
      all_goals
        go_wp2_with fail
        refine (qS _).mono ?_
        rintro e w3 ⟨rfl, k3⟩
        have hT3 := hT2.kept k3
        go_wp2_with fail
        refine (uQ _ hT3).mono ?_
        rintro e w4 ⟨rfl, k4⟩
        have hT4 := hT3.kept k4
        go_wp2_with fail
        refine (vQ _ hT4).mono ?_
        rintro e w5 ⟨rfl, k5⟩
        have HF := hid ((((k1.nil k2).nil k3).nil k4).nil k5)
        clear k2 k3 k4 k5
        go_wp2_with fail
        go_meet
        exact HF.out
  case rest =>
    have kc := hcut
    have hTc := hT.kept kc
    have uM := fun W hW => unq_l W M (by omega) hW
    have fM := unq_fine M
    obtain ⟨R, hR⟩ : ∃ R, R = unq M := ⟨_, rfl⟩
    unfold UnqPost at uM
    simp only [← hR] at uM fM
    obtain ⟨r1, r2, r3⟩ := R
    unfold Fine at fM
    dsimp only at fM uM
    obtain ⟨f1, f2, f3, f4⟩ := fM
    clear hR
    rcases (show r3 = 0 ∨ r3 ≠ 0 from by omega) with h | h
    · obtain ⟨g1, g2, g3⟩ := f1 h
      have vR := fun W hW => valid_l W r1 (by omega) hW
      rw [g1] at vR
      subst h
      clear f1 f2 f3 g1
      go_wp2_with fail
      refine (uM _ hTc).mono ?_
      rintro e w2 ⟨rfl, k2⟩
      have hT2 := hTc.kept k2
      go_wp2_with fail
      refine (vR _ hT2).mono ?_
      rintro e w3 ⟨rfl, k3⟩
      have HF := hid ((kc.nil k2).nil k3)
      clear k2 k3
      go_wp2_with fail
      go_ret
      exact ⟨rfl, HF.out⟩
    · obtain ⟨g1, g2⟩ := f2 h
      subst g1
      subst g2
      clear f1 f2 f4
      rcases f3 with rfl | rfl | rfl
      · exact absurd rfl h
      all_goals
        go_wp2_with fail
        refine (uM _ hTc).mono ?_
        rintro e w2 ⟨rfl, k2⟩
        have HF := hid (kc.nil k2)
        clear k2
        go_wp2_with fail
        go_ret
        exact ⟨rfl, HF.out⟩
end Go.Proofs.YtdmajeidggjalaaDoor
