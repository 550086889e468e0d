/- QuoteJoins: two texts, quoted, one behind the other. -/
import Derived.Test.YtdmajeidggjalaaDoorQLists
import Derived.Deep.RegionHeld3
import Derived.Deep.Cut
namespace Go.Proofs.YtdmajeidggjalaaDoor
open Go Go.RowKit

set_option maxRecDepth 100000 in
set_option maxHeartbeats 6400000 in
theorem joins_any (w : World) (hT : Tabs w) (s : ByteArray) (hs : s.size ≤ maxLen) (t : ByteArray) (ht : t.size ≤ maxLen) : Calls Tryd.prog 5 #[.string s, .string t] w (YesPost w) := by
  have hs2 : s.size ≤ 9223372036854775807 := hs
  have ht2 : t.size ≤ 9223372036854775807 := ht
  clear hs ht
  go_enter Tryd.func5, Tryd.ntmps5
  go_wp2_with fail
  refine (shown_any w hT).mono ?_
  rintro e w1 ⟨rfl, k1⟩
  have hT1 := hT.kept k1
  go_upto_if 17 with fail
  go_cut [0] (fun v wx => v = .string (fewL 500 s) ∧ wx = w1)
  case first =>
    by_cases h : 500 < s.size
    · have hf := hid (show fewL 500 s = s.extract 0 500 from if_pos h)
      go_wp2_with fail
      go_meet
      exact ⟨by rw [hf.out], rfl⟩
    · have hf := hid (show fewL 500 s = s from if_neg h)
      go_wp2_with fail
      go_meet
      exact ⟨by rw [hf.out], rfl⟩
  case' rest => obtain ⟨rfl, hwc⟩ := hcut
  case' rest => subst wc
  case' rest => go_upto_if 22 with fail
  case' rest => go_cut [1] (fun v wx => v = .string (fewL 500 t) ∧ wx = w1)
  case first =>
    by_cases h : 500 < t.size
    · have hf := hid (show fewL 500 t = t.extract 0 500 from if_pos h)
      go_wp2_with fail
      go_meet
      exact ⟨by rw [hf.out], rfl⟩
    · have hf := hid (show fewL 500 t = t from if_neg h)
      go_wp2_with fail
      go_meet
      exact ⟨by rw [hf.out], rfl⟩
  case rest =>
    obtain ⟨rfl, hwc⟩ := hcut
    subst wc
    obtain ⟨S, hl, hls, hfew⟩ := few_list 500 s
    rw [hfew]
    clear hfew
    obtain ⟨T, tl, tls, hfew⟩ := few_list 500 t
    rw [hfew]
    clear hfew
    have vS := fun W hW => valid_l W S (by omega) hW
    have vT := fun W hW => valid_l W T (by omega) hW
    rcases (show Lib.validD S = false ∨ (Lib.validD S = true ∧ Lib.validD T = false) ∨ (Lib.validD S = true ∧ Lib.validD T = true) from by
      cases Lib.validD S <;> cases Lib.validD T <;> simp) with hv | ⟨hv, hv2⟩ | ⟨hv, hv2⟩
    · rw [hv] at vS
      clear hv
      go_wp2_with fail
      refine (vS _ hT1).mono ?_
      rintro e w2 ⟨rfl, k2⟩
      have HF := hid (k1.nil k2)
      clear k2
      go_wp2_with fail
      go_ret
      exact ⟨rfl, HF.out⟩
    · rw [hv] at vS
      rw [hv2] at vT
      clear hv hv2
      go_wp2_with fail
      refine (vS _ hT1).mono ?_
      rintro e w2 ⟨rfl, k2⟩
      have hT2 := hT1.kept k2
      go_wp2_with fail
      refine (vT _ hT2).mono ?_
      rintro e w3 ⟨rfl, k3⟩
      have HF := hid ((k1.nil k2).nil k3)
      clear k2 k3
      go_wp2_with fail
      go_ret
      exact ⟨rfl, HF.out⟩
    · rw [hv] at vS
      rw [hv2] at vT
      have blS := body_len S
      have blT := body_len T
      have qlS : (quoteL S).length = (body S).length + 2 := length_quoteL S
      have qlT : (quoteL T).length = (body T).length + 2 := length_quoteL T
      have qS := fun W => quote_l W S (by omega) hv
      have qT := fun W => quote_l W T (by omega) hv2
      have hv3 : Lib.validD (S ++ T) = true := by rw [valid_append S hv T]; exact hv2
      have qST := fun W => quote_l W (S ++ T) (by rw [List.length_append]; omega) hv3
      have hjoin := quote_join S T
      have u1 := unq_back S (quoteL T) hv (by omega)
      have u2 := unq_back T [] hv2 (by omega)
      rw [List.append_nil] at u2
      have hparts := congrArg List.length (parts_front S hv T)
      rw [List.length_append] at hparts
      rw [hjoin] at qST
      obtain ⟨Q, hQ⟩ : ∃ Q, Q = quoteL S := ⟨_, rfl⟩
      obtain ⟨R, hR⟩ : ∃ R, R = quoteL T := ⟨_, rfl⟩
      simp only [← hQ] at qlS qS qST u1
      simp only [← hR] at qlT qT qST u1 u2
      have c1 := fun W hW => unq_l W (Q ++ R) (by rw [List.length_append]; omega) hW
      have c2 := fun W hW => unq_l W R (by omega) hW
      unfold UnqPost at c1 c2
      rw [u1] at c1
      rw [u2] at c2
      have hadd := fun W => run_add_text (P := Tryd.prog) Q R (Q ++ R) rfl (by omega) W
      have hadd2 := fun W => run_add_text (P := Tryd.prog) S T (S ++ T) rfl (by omega) W
      have hadd3 := fun W => run_add_text (P := Tryd.prog) (Q.take (Q.length - 1)) (R.drop 1) (Q.take (Q.length - 1) ++ R.drop 1) rfl (by rw [List.length_take, List.length_drop]; omega) W
      have rST := fun W => runes_l W (S ++ T) (by rw [List.length_append]; omega)
      have rS := fun W => runes_l W S (by omega)
      have rT := fun W => runes_l W T (by omega)
      have szQ : (⟨Q.toArray⟩ : ByteArray).size = Q.length := size_mk Q
      have szR : (⟨R.toArray⟩ : ByteArray).size = R.length := size_mk R
      have szQR : (⟨(Q ++ R).toArray⟩ : ByteArray).size = Q.length + R.length := by rw [size_mk, List.length_append]
      have x1 : (⟨(Q ++ R).toArray⟩ : ByteArray).extract Q.length (Q.length + R.length) = ⟨R.toArray⟩ := by
        rw [extract_list]
        show (⟨(((Q ++ R).take (Q.length + R.length)).drop Q.length).toArray⟩ : ByteArray) = _
        rw [List.take_of_length_le (by simp), List.drop_left]
      have x2 : (⟨Q.toArray⟩ : ByteArray).extract 0 (Q.length - 1) = ⟨(Q.take (Q.length - 1)).toArray⟩ := by rw [extract_list]; simp
      have x3 : (⟨R.toArray⟩ : ByteArray).extract 1 R.length = ⟨(R.drop 1).toArray⟩ := by rw [extract_list]; simp
      have q1 : Q.length ≤ 4000 := by omega
      have q2 : 2 ≤ Q.length := by omega
      have q3 : R.length ≤ 4000 := by omega
      have q4 : 2 ≤ R.length := by omega
      clear hQ hR hv hv2 hv3 hjoin u1 u2 qlS qlT blS blT
      go_wp2_with fail
      refine (vS _ hT1).mono ?_
      rintro e w2 ⟨rfl, k2⟩
      have hT2 := hT1.kept k2
      go_wp2_with fail
      refine (vT _ hT2).mono ?_
      rintro e w3 ⟨rfl, k3⟩
      have hT3 := hT2.kept k3
      go_wp2_with fail
      refine (qS _).mono ?_
      rintro e w4 ⟨rfl, k4⟩
      have hT4 := hT3.kept k4
      go_wp2_with fail
      refine (qT _).mono ?_
      rintro e w5 ⟨rfl, k5⟩
      have hT5 := hT4.kept k5
      go_wp2_with fail
      refine (c1 _ hT5).mono ?_
      rintro e w6 ⟨rfl, k6⟩
      have hT6 := hT5.kept k6
      go_wp2_with fail
      refine (c2 _ hT6).mono ?_
      rintro e w7 ⟨rfl, k7⟩
      have kw := (((((k1.nil k2).nil k3).nil k4).nil k5).nil k6).nil k7
      clear k2 k3 k4 k5 k6 k7
      go_upto_region 12 with fail
      have kw0 := kw.drew
      obtain ⟨p, hp⟩ : ∃ p, p = Q.length - 1 := ⟨_, rfl⟩
      rw [← hp] at x2
      simp only [← hp] at hadd3 qST
      have lpS := length_parts_le S
      have lpT := length_parts_le T
      have lQT : (Q.take p).length ≤ 4000 := by rw [List.length_take]; omega
      have lRD : (R.drop 1).length ≤ 4000 := by rw [List.length_drop]; omega
      obtain ⟨QT, hQT⟩ : ∃ QT, QT = Q.take p := ⟨_, rfl⟩
      obtain ⟨RD, hRD⟩ : ∃ RD, RD = R.drop 1 := ⟨_, rfl⟩
      simp only [← hQT, ← hRD] at x2 x3 hadd3 qST lQT lRD
      obtain ⟨J, hJ⟩ : ∃ J, J = QT ++ RD := ⟨_, rfl⟩
      simp only [← hJ] at hadd3 qST
      have i1 : IntKind.i64.wrap ((Q.length : Int) - 1) = (p : Int) := by rw [IntWalk.i64_in _ (by omega)]; omega
      have i2 : (0 : Int) ≤ (p : Int) := by omega
      have i3 : (p : Int) ≤ (Q.length : Int) := by omega
      have i4 : (1 : Int) ≤ (R.length : Int) := by omega
      have i5 : IntKind.i64.wrap (((partsL S).length : Int) + ((partsL T).length : Int)) = ((partsL (S ++ T)).length : Int) := by rw [IntWalk.i64_in _ (by omega)]; omega
      clear hp hparts q1 q2 q3 q4 hQT hRD hJ lpS lpT
      go_region_held3 (fun w' => Kp [] w w') (first | exact kw0 | exact ka | exact kb | exact kc | exact kd | go_keep)
        (first
          | (go_at_call 14; (with_reducible refine (qST _).mono ?_); rintro e wa ⟨rfl, ka0⟩; have ka := kw.drew.nil ka0)
          | (go_at_call 15; (with_reducible refine (rST _).mono ?_); rintro e wb ⟨rfl, kb0⟩; have kb := ka.nil kb0)
          | (go_at_call 15; (with_reducible refine (rS _).mono ?_); rintro e wc ⟨rfl, kc0⟩; have kc := kb.nil kc0)
          | (go_at_call 15; (with_reducible refine (rT _).mono ?_); rintro e wd ⟨rfl, kd0⟩; have kd := kc.nil kd0))
      have HF := hid kd
      clear kd kd0 kc kc0 kb kb0 ka ka0 kw0 kw
      go_wp2_with fail
      go_ret
      exact ⟨rfl, HF.out⟩
end Go.Proofs.YtdmajeidggjalaaDoor
