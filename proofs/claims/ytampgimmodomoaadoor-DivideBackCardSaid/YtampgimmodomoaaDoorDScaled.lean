/- scaled of layer 2: a number of digits as a decimal. -/
import Derived.Test.YtampgimmodomoaaDoorDPlain
import Derived.Test.YtampgimmodomoaaDoorDSym
import Derived.Deep.Cut
namespace Go.Proofs.YtampgimmodomoaaDoor
open Go Go.RowKit Go.Lib

theorem trim0 (L : List UInt8) (hL : Digs L) (W : World) : Calls Tryd.prog 93 #[.string ⟨L.toArray⟩, .string ⟨#[48]⟩] W fun e w' => e = .returned (.string ⟨(dstr (val L)).toArray⟩) ∧ w' = W := by
  have htl := Tryd.strings_TrimLeft_one ⟨L.toArray⟩ 48 (by decide)
  simp only [trimLeft_dstr L hL] at htl
  exact htl W
theorem sc_cases (neg : Bool) (V : Nat) (sc : Int) : (sc < 0 ∧ scD neg V sc = norm neg (V * 10 ^ (-sc).toNat) 0) ∨ (¬ sc < 0 ∧ scD neg V sc = norm neg V sc.toNat) := by
  unfold scD
  by_cases h : sc < 0
  · exact .inl ⟨h, by rw [if_pos h]⟩
  · exact .inr ⟨h, by rw [if_neg h]⟩
set_option maxRecDepth 100000 in
set_option maxHeartbeats 25600000 in
theorem scaled_any (w : World) (neg : Bool) (K : List UInt8) (hK : Digs K) (hl : K.length ≤ 10000) (sc : Int) (h1 : -10000 ≤ sc) (h2 : sc ≤ 10000) :
    Calls Tryd.prog 74 #[.bool neg, .string ⟨K.toArray⟩, .int .i64 sc] w (MadePost w (scD neg (val K) sc)) := by
  -- with a scale that is not below 0
  obtain ⟨D1, S, hD1, hS, hDl1, hd1, hsc1⟩ : ∃ (D1 : List UInt8) (S : Nat), (D1 = if sc < 0 then K ++ List.replicate (-sc).toNat 48 else K) ∧ S = (if sc < 0 then 0 else sc.toNat) ∧ D1.length ≤ 20000 ∧ Digs D1 ∧ scD neg (val K) sc = norm neg (val D1) S := by
    rcases sc_cases neg (val K) sc with ⟨h, e⟩ | ⟨h, e⟩
    · refine ⟨_, _, rfl, rfl, ?_, ?_, ?_⟩
      · rw [if_pos h, List.length_append, List.length_replicate]; omega
      · rw [if_pos h]; exact hK.append (Digs.zeros _)
      · rw [if_pos h, if_pos h, val_zeros_end]; exact e
    · refine ⟨_, _, rfl, rfl, ?_, ?_, ?_⟩
      · rw [if_neg h]; omega
      · rw [if_neg h]; exact hK
      · rw [if_neg h, if_neg h]; exact e
  have hS9 : S ≤ 10000 := by rw [hS]; split <;> omega
  -- with noughts ahead
  obtain ⟨D, hD, hDS, hDl, hd, hv⟩ : ∃ D : List UInt8, (D = if D1.length ≤ S then List.replicate (S + 1 - D1.length) 48 ++ D1 else D1) ∧ S < D.length ∧ D.length ≤ 40000 ∧ Digs D ∧ val D = val D1 := by
    by_cases h : D1.length ≤ S
    · refine ⟨_, rfl, ?_, ?_, ?_, ?_⟩ <;> rw [if_pos h]
      · rw [List.length_append, List.length_replicate]; omega
      · rw [List.length_append, List.length_replicate]; omega
      · exact (Digs.zeros _).append hd1
      · exact val_pad _ _
    · refine ⟨_, rfl, ?_, ?_, ?_, ?_⟩ <;> rw [if_neg h]
      · omega
      · omega
      · exact hd1
  obtain ⟨m, hm⟩ : ∃ m, m = D.length - S := ⟨_, rfl⟩
  have hps := parse_scaled neg hd (S := S) (by omega)
  rw [← hm, hv] at hps
  rw [hsc1]
  obtain ⟨O, hO⟩ : ∃ O, O = norm neg (val D1) S := ⟨_, rfl⟩
  rw [← hO] at hps ⊢
  obtain ⟨U, hU⟩ : ∃ U, U = val (D.take m) := ⟨_, rfl⟩
  obtain ⟨Wt, hWt⟩ : ∃ Wt, Wt = dtxt U := ⟨_, rfl⟩
  obtain ⟨P, hP⟩ : ∃ P, P = D.drop m := ⟨_, rfl⟩
  rw [← hU, ← hWt, ← hP] at hps
  obtain ⟨F, hF⟩ : ∃ F, F = formL neg Wt P := ⟨_, rfl⟩
  have hPl : P.length = S := by rw [hP, List.length_drop]; omega
  have hWl : Wt.length ≤ 40001 := by
    have h3 := val_lt _ (hd.take m)
    rw [← hU] at h3
    have h4 : (D.take m).length ≤ 40000 := by rw [List.length_take]; omega
    have h5 : ∀ n, 40000 ≤ n → 1 ≤ n → (dtxt U).length ≤ n := fun n h6 h7 => length_dtxt_le (Nat.lt_of_lt_of_le h3 (Nat.pow_le_pow_right (by decide) (by omega))) h7
    rw [hWt]
    exact h5 40001 (by omega) (by omega)
  have hFl : F.length ≤ 100000 := by
    rw [hF]
    unfold formL
    rw [List.length_append, List.length_append]
    have : (if neg then [(45 : UInt8)] else []).length ≤ 1 := by cases neg <;> simp
    have : (if P = [] then [] else 46 :: P).length ≤ 10001 := by split <;> simp; omega
    omega
  have qp : ∀ W, Calls Tryd.prog 20 #[.string ⟨F.toArray⟩] W fun e w' => e = .returned (.tuple #[.agg #[.bool (oN O), .string ⟨(oL O).toArray⟩, .int .i64 (oS O)], .int .i64 (oE O)]) ∧ Kp [] W w' := fun W => (parse_any W F hFl).mono fun e w' ⟨h3, h4⟩ => ⟨by
    rw [h3, ← resV_is]
    rw [← hF] at hps
    rw [hps]
    rfl, h4⟩
  have HK := hid ((Kp.refl [] w).alloc (.cells #[.bool false, .string ⟨#[]⟩, .int .i64 0] 23))
  have HM := hid (Room.fresh w (.bool false) (.string ⟨#[]⟩) (.int .i64 0))
  obtain ⟨W0, hW0⟩ : ∃ W0, W0 = w.alloc (.cells #[.bool false, .string ⟨#[]⟩, .int .i64 0] 23) := ⟨_, rfl⟩
  have HW0 := hid hW0
  rw [← hW0] at HK HM
  have HQ := hid qp
  have qt := fun W => trim0 (D.take m) (hd.take m) W
  simp only [← hU] at qt
  have HA := hid (And.intro hD1 (And.intro hS (And.intro hD (And.intro hm (And.intro hU (And.intro hWt (And.intro hP hF)))))))
  have hDsz : (⟨D.toArray⟩ : ByteArray).size = D.length := size_mk _
  have hD1sz : (⟨D1.toArray⟩ : ByteArray).size = D1.length := size_mk _
  have Hqt := hid qt
  have hlS : S < D.length := hDS
  clear hD1 hS hD hm hU hWt hP hF qp qt hps hO hW0 hsc1 hv hd hd1 hK
  obtain ⟨t1, b1⟩ : ∃ t, decide (sc < 0) = t := ⟨_, rfl⟩
  obtain ⟨t2, b2⟩ : ∃ t, decide (D1.length ≤ S) = t := ⟨_, rfl⟩
  have B := hid (And.intro b1 b2)
  clear b2
  go_enter Tryd.func74, Tryd.ntmps74
  go_upto_if 12 with fail
  clear b1
  go_cut [1, 2, 12] (fun v1 v2 _ wx => v1 = .string ⟨D1.toArray⟩ ∧ v2 = .int .i64 (S : Int) ∧ Kp [] W0 wx)
  case first =>
    cases t1 with
    | true =>
      have hs : sc < 0 := of_decide_eq_true B.out.1
      obtain ⟨n, hn⟩ : ∃ n : Nat, n = (-sc).toNat := ⟨_, rfl⟩
      have en : -sc = (n : Int) := by omega
      have hx1 := HA.out.1
      have hx2 := HA.out.2.1
      rw [if_pos hs, ← hn] at hx1
      rw [if_pos hs] at hx2
      have qr := fun W => repeat_any W n (by omega)
      have hadd := fun W => run_add_text (P := Tryd.prog) K (List.replicate n 48) D1 hx1 (by rw [List.length_replicate]; omega) W
      obtain ⟨Z, hZ⟩ : ∃ Z : List UInt8, Z = List.replicate n 48 := ⟨_, rfl⟩
      simp only [← hZ] at qr hadd
      have hw64 : IntKind.i64.wrap (n : Int) = (n : Int) := IntWalk.i64_in _ (by omega)
      have Hx2 := hid hx2
      clear hx1 hx2 hZ hn hs
      go_wp2_with fail
      (with_reducible refine (qr _).mono ?_)
      rintro e w1 ⟨rfl, k1⟩
      have K1 := hid k1
      clear k1 qr
      go_wp2_with fail
      go_meet
      exact ⟨rfl, by rw [Hx2.out]; rfl, by rw [HW0.out]; exact K1.out⟩
    | false =>
      have hs : ¬ sc < 0 := of_decide_eq_false B.out.1
      have hx1 := HA.out.1
      have hx2 := HA.out.2.1
      rw [if_neg hs] at hx1 hx2
      have hsS : sc = (S : Int) := by omega
      have Hx1 := hid (And.intro hx1 hsS)
      clear hx1 hx2 hsS hs
      go_wp2_with fail
      go_meet
      exact ⟨by rw [Hx1.out.1], by rw [← Hx1.out.2], by rw [HW0.out]; exact Kp.refl _ _⟩
  case rest =>
    obtain ⟨rfl, rfl, hkp⟩ := hcut
    have HK1 := hid hkp
    clear hkp
    have b2 := B.out.2
    go_upto_if 21 with fail
    clear b2
    go_cut [1, 21] (fun v1 _ wx => v1 = .string ⟨D.toArray⟩ ∧ Kp [] W0 wx)
    case first =>
      cases t2 with
      | true =>
        have hs : D1.length ≤ S := of_decide_eq_true B.out.2
        obtain ⟨n, hn⟩ : ∃ n : Nat, n = S + 1 - D1.length := ⟨_, rfl⟩
        have hx1 := HA.out.2.2.1
        rw [if_pos hs, ← hn] at hx1
        have w1 : IntKind.i64.wrap ((S : Int) + 1) = (S : Int) + 1 := IntWalk.i64_in _ (by omega)
        have w2 : IntKind.i64.wrap ((S : Int) + 1 - (D1.length : Int)) = (n : Int) := by rw [IntWalk.i64_in _ (by omega)]; omega
        have qr := fun W => repeat_any W n (by omega)
        have hadd := fun W => run_add_text (P := Tryd.prog) (List.replicate n 48) D1 D hx1 (by rw [List.length_replicate]; omega) W
        obtain ⟨Z, hZ⟩ : ∃ Z : List UInt8, Z = List.replicate n 48 := ⟨_, rfl⟩
        simp only [← hZ] at qr hadd
        clear hx1 hZ hn hs
        go_wp2_with fail
        (with_reducible refine (qr _).mono ?_)
        rintro e w1 ⟨rfl, k1⟩
        have K1 := hid k1
        clear k1 qr
        go_wp2_with fail
        go_meet
        exact ⟨rfl, HK1.out.nil K1.out⟩
      | false =>
        have hs : ¬ D1.length ≤ S := of_decide_eq_false B.out.2
        have hx1 := HA.out.2.2.1
        rw [if_neg hs] at hx1
        have Hx1 := hid hx1
        clear hx1 hs
        go_wp2_with fail
        go_meet
        exact ⟨by rw [Hx1.out], HK1.out⟩
    case rest =>
      obtain ⟨rfl, hkp⟩ := hcut
      have HK2 := hid hkp
      have w1 : IntKind.i64.wrap ((D.length : Int) - (S : Int)) = (m : Int) := by rw [IntWalk.i64_in _ (by omega)]; have := HA.out.2.2.2.1; omega
      have hm1 : (m : Int) ≤ (D.length : Int) := by have := HA.out.2.2.2.1; omega
      have hm0 : (0 : Int) ≤ (m : Int) := by omega
      have hx1 := extract_mk D 0 m
      rw [List.drop_zero] at hx1
      obtain ⟨T, hT⟩ : ∃ T, T = D.take m := ⟨_, rfl⟩
      rw [← hT] at hx1 Hqt
      obtain ⟨Q, hQ⟩ : ∃ Q, Q = dstr U := ⟨_, rfl⟩
      rw [← hQ] at Hqt
      have HQU := hid hQ
      obtain ⟨t3, b3⟩ : ∃ t, Q.isEmpty = t := ⟨_, rfl⟩
      have B3 := hid b3
      have hqt := fun W => Hqt.out W
      clear hkp hT b3 hQ
      go_wp2_with fail
      (with_reducible refine (hqt _).mono ?_)
      rintro e w2 ⟨rfl, rfl⟩
      have b3 := B3.out
      clear hqt hx1
      go_upto_if 39 with fail
      clear b3
      go_cut [9, 39] (fun v9 _ wx => v9 = .string ⟨Wt.toArray⟩ ∧ wx = w2)
      case first =>
        have hWt := HA.out.2.2.2.2.2.1
        unfold dtxt at hWt
        rw [← HQU.out] at hWt
        cases t3 with
        | true =>
          have hQ0 : Q = [] := List.isEmpty_iff.1 B3.out
          have hU0 : U = 0 := dstr_nil.1 (by rw [← HQU.out]; exact hQ0)
          rw [if_pos hU0] at hWt
          have H9 := hid hWt
          clear hWt hU0 hQ0
          go_wp2_with fail
          go_meet
          exact ⟨by rw [H9.out], rfl⟩
        | false =>
          have hU0 : U ≠ 0 := by
            intro e
            have := B3.out
            rw [HQU.out, e] at this
            cases this
          rw [if_neg hU0] at hWt
          have H9 := hid hWt
          clear hWt hU0
          go_wp2_with fail
          go_meet
          exact ⟨by rw [H9.out], rfl⟩
      case rest =>
        obtain ⟨rfl, rfl⟩ := hcut
        obtain ⟨V, hV⟩ : ∃ V, V = (if neg then [45] else []) ++ Wt := ⟨_, rfl⟩
        have HV := hid hV
        clear hV
        go_upto_if 41 with fail
        obtain ⟨W3, hW3⟩ : ∃ W3 : World, W3 = wc := ⟨_, rfl⟩
        rw [← hW3] at HK2 ⊢
        clear hW3
        go_cut [10, 41] (fun v10 _ wx => v10 = .string ⟨V.toArray⟩ ∧ wx = W3)
        case first =>
          cases neg with
          | true =>
            have hadd := fun W => run_add_text (P := Tryd.prog) [45] Wt ([45] ++ Wt) rfl (by simp; omega) W
            have hV := HV.out
            rw [if_pos rfl] at hV
            have H9 := hid hV
            clear hV
            go_wp2_with fail
            go_meet
            exact ⟨by rw [H9.out]; rfl, rfl⟩
          | false =>
            have hV := HV.out
            rw [if_neg (by simp), List.nil_append] at hV
            have H9 := hid hV
            clear hV
            go_wp2_with fail
            go_meet
            exact ⟨by rw [H9.out], rfl⟩
        case rest =>
          obtain ⟨rfl, rfl⟩ := hcut
          have hF : F = V ++ (if P = [] then [] else 46 :: P) := by
            rw [HA.out.2.2.2.2.2.2.2, HV.out]
            unfold formL
            rw [List.append_assoc]
          have HF := hid hF
          obtain ⟨t4, b4⟩ : ∃ t, decide (0 < S) = t := ⟨_, rfl⟩
          have B4 := hid b4
          have hVl : V.length ≤ 40002 := by
            rw [HV.out, List.length_append]
            have : (if neg then [(45 : UInt8)] else []).length ≤ 1 := by cases neg <;> simp
            omega
          clear hF
          go_upto_if 45 with fail
          clear b4
          obtain ⟨W4, hW4⟩ : ∃ W4 : World, W4 = wc := ⟨_, rfl⟩
          rw [← hW4] at HK2 ⊢
          clear hW4
          go_cut [10, 45] (fun v10 _ wx => v10 = .string ⟨F.toArray⟩ ∧ wx = W4)
          case first =>
            cases t4 with
            | true =>
              have hS0 : 0 < S := of_decide_eq_true B4.out
              have hF := HF.out
              rw [if_neg (fun e => by rw [e] at hPl; simp at hPl; omega)] at hF
              have hx2 := extract_mk D m D.length
              rw [List.take_length, ← HA.out.2.2.2.2.2.2.1] at hx2
              have ha1 := fun W => run_add_text (P := Tryd.prog) [46] P (46 :: P) rfl (by simp; omega) W
              have ha2 := fun W => run_add_text (P := Tryd.prog) V (46 :: P) F hF (by simp; omega) W
              clear hF hS0
              go_wp2_with fail
              go_meet
              exact ⟨rfl, rfl⟩
            | false =>
              have hS0 : ¬ 0 < S := of_decide_eq_false B4.out
              have hF := HF.out
              rw [if_pos (List.eq_nil_of_length_eq_zero (by omega)), List.append_nil] at hF
              have H9 := hid hF
              clear hF hS0
              go_wp2_with fail
              go_meet
              exact ⟨by rw [H9.out], rfl⟩
          case rest =>
            obtain ⟨rfl, rfl⟩ := hcut
            have qp := HQ.out
            go_wp2_with fail
            (with_reducible refine (qp _).mono ?_)
            rintro e w5 ⟨rfl, k5⟩
            have hk5 := HK2.out.nil k5
            obtain ⟨_, _, _, c0, c1, c2, f0, f1, f2⟩ := (HM.out.kept hk5).cells
            have HK5 := hid (HK.out.nil hk5)
            clear k5 hk5 qp
            go_wp2_with fail
            exact bodyPost_ret (v := .tuple #[.agg #[.bool (oN O), .string ⟨(oL O).toArray⟩, .int .i64 (oS O)], .int .i64 (oE O)]) (by simp [results, Tryd.results74, go_sem, c0, c1, c2]) rfl ⟨by rw [resV_is], kp_room HK5.out _ _ _⟩
end Go.Proofs.YtampgimmodomoaaDoor
