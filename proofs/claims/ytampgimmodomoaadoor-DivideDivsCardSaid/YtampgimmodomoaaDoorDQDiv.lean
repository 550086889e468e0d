/- The document's answer for layer 2: Div. -/
import Derived.Test.YtampgimmodomoaaDoorDQSmall
import Derived.Test.YtampgimmodomoaaDoorDDiv
import Derived.Deep.Cut
namespace Go.Proofs.YtampgimmodomoaaDoor
open Go Go.RowKit Go.Lib

theorem qdiv_zero (w : World) (a b : Dc) (hb0 : b.n = 0) :
    Calls Tryd.prog 38 #[.agg #[.bool a.neg, .string ⟨(dtxt a.n).toArray⟩, .int .i64 (a.s : Int)], .agg #[.bool b.neg, .string ⟨(dtxt b.n).toArray⟩, .int .i64 (b.s : Int)]] w fun e w' => e = .returned (.tuple #[.agg #[.bool false, .string ⟨#[]⟩, .int .i64 0], .int .i64 5]) ∧ Kp [] w w' := by
  have hB : dtxt b.n = [48] := by rw [hb0]; rfl
  rw [hB]
  obtain ⟨A, hA⟩ : ∃ A, A = dtxt a.n := ⟨_, rfl⟩
  rw [← hA]
  clear hA hB hb0
  have HK := hid ((((Kp.refl [] w).alloc (.cells #[.bool a.neg, .string ⟨A.toArray⟩, .int .i64 (a.s : Int)] 23)).alloc (.cells #[.bool b.neg, .string ⟨#[48]⟩, .int .i64 (b.s : Int)] 23)).alloc (.cells #[.bool false, .string ⟨#[]⟩, .int .i64 0] 23))
  go_enter Tryd.func38, Tryd.ntmps38
  go_wp2_with fail
  exact bodyPost_ret (v := .tuple #[.agg #[.bool false, .string ⟨#[]⟩, .int .i64 0], .int .i64 5]) (by simp [results, Tryd.results38, go_sem]) rfl ⟨rfl, HK.out⟩
theorem val_one_wide (n : Nat) : val (List.replicate n 48 ++ [49]) = 1 := by
  rw [val_pad]
  rfl
set_option maxRecDepth 100000 in
set_option maxHeartbeats 25600000 in
theorem qdiv_any (w : World) (a b : Dc) (ha : Ok a) (hb : Ok b) (hb0 : b.n ≠ 0) :
    Calls Tryd.prog 38 #[.agg #[.bool a.neg, .string ⟨(dtxt a.n).toArray⟩, .int .i64 (a.s : Int)], .agg #[.bool b.neg, .string ⟨(dtxt b.n).toArray⟩, .int .i64 (b.s : Int)]] w (MadePost w (divD a b)) := by
  obtain ⟨A, hA, dA, lA, lA0, vA, -⟩ := dec_letters ha
  obtain ⟨B, hB, dB, lB, lB0, vB, hB48⟩ := dec_letters hb
  have hsa := ha.2.1
  have hsb := hb.2.1
  have hbB : (B == [48]) = false := by rw [beq_eq_false_iff_ne]; exact fun e => hb0 (hB48.1 e)
  obtain ⟨RR, hR⟩ : ∃ R, R = divD a b := ⟨_, rfl⟩
  have hRD : RR = scD (a.neg != b.neg) (rndK (quoV a b) (quoM a b)) ((a.s : Int) - b.s + quoJ a.n b.n - rndT (quoV a b)) := hR
  rw [← hR, ← hA, ← hB]
  unfold quoV quoM at hRD
  rw [← vA, ← vB] at hRD
  have ql := fun W => qlong_any W A B dA dB (by omega) (by omega) (by omega)
  have qs := fun W R c hR hc lR hx => qstep_any W R B c hR dB hc lR (by omega) hx
  obtain ⟨y, hy⟩ : ∃ y, y = val B := ⟨_, rfl⟩
  obtain ⟨T, hT⟩ : ∃ T, T = B.length + 1 := ⟨_, rfl⟩
  rw [← hy] at hRD ql qs
  rw [← hT] at ql qs
  have hy0 : 0 < y := by omega
  have hyT : y < 10 ^ T := by
    have h := val_lt B dB
    rw [← hy] at h
    exact Nat.lt_of_lt_of_le h (Nat.pow_le_pow_right (by decide) (by omega))
  have hy60 : y < 10 ^ 60 := by rw [hy, vB]; exact hb.1
  obtain ⟨na, hna⟩ : ∃ x, x = a.neg := ⟨_, rfl⟩
  obtain ⟨nb, hnb⟩ : ∃ x, x = b.neg := ⟨_, rfl⟩
  obtain ⟨sa, hsaD⟩ : ∃ x, x = a.s := ⟨_, rfl⟩
  obtain ⟨sb, hsbD⟩ : ∃ x, x = b.s := ⟨_, rfl⟩
  rw [← hna, ← hnb, ← hsaD, ← hsbD] at hRD ⊢
  rw [← hsaD] at hsa
  rw [← hsbD] at hsb
  have HR := hid hRD
  have HA := hid (And.intro hy0 (And.intro hyT hy60))
  have Hqs := hid qs
  have T9 : T ≤ 61 := by omega
  clear hA hB dA dB vA vB hB48 hR hRD hy hy0 hT hyT hna hnb hsaD hsbD qs hy60
  have w1 : IntKind.i64.wrap ((sa : Int) - (sb : Int)) = (sa : Int) - (sb : Int) := IntWalk.i64_in _ (by omega)
  go_enter Tryd.func38, Tryd.ntmps38
  go_wp2_with fail
  obtain ⟨W0, hW0⟩ : ∃ W0, W0 = (((w.alloc (.cells #[.bool na, .string ⟨A.toArray⟩, .int .i64 (sa : Int)] 23)).alloc (.cells #[.bool nb, .string ⟨B.toArray⟩, .int .i64 (sb : Int)] 23)).alloc (.cells #[.bool false, .string ⟨#[]⟩, .int .i64 0] 23)) := ⟨_, rfl⟩
  have hK0 : Kp [] w W0 := by rw [hW0]; exact (((Kp.refl _ _).alloc _).alloc _).alloc _
  have hC0 : Cells W0 w.heap.size 23 [.bool na, .string ⟨A.toArray⟩, .int .i64 (sa : Int)] := by rw [hW0]; exact ((Cells.fresh w 23 _).alloc _).alloc _
  have hC1 : Cells W0 (w.heap.size + 1) 23 [.bool nb, .string ⟨B.toArray⟩, .int .i64 (sb : Int)] := by rw [hW0]; exact (Cells.fresh1 w _ 23 _).alloc _
  have hC2 : Room (w.heap.size + 1 + 1) W0 := by
    rw [hW0]
    have := Cells.fresh1 (w.alloc (.cells #[.bool na, .string ⟨A.toArray⟩, .int .i64 (sa : Int)] 23)) (.cells #[.bool nb, .string ⟨B.toArray⟩, .int .i64 (sb : Int)] 23) 23 [.bool false, .string ⟨#[]⟩, .int .i64 0]
    exact ⟨_, by simpa using this, rfl⟩
  rw [← hW0]
  have H0 := hid (And.intro hK0 (And.intro hC0 (And.intro hC1 hC2)))
  clear hK0 hC0 hC1 hC2 hW0
  (with_reducible refine (ql _).mono ?_)
  rintro e w1 ⟨O0, R0, x0, rfl, hL0, dR0, vR0, lR0, k1⟩
  have a2 : w1.cell? ⟨w.heap.size, 2, none⟩ = _ := (H0.out.2.1.keep k1 (by simp)).cell 2
  have b2 : w1.cell? ⟨w.heap.size + 1, 2, none⟩ = _ := (H0.out.2.2.1.keep k1 (by simp)).cell 2
  simp only [List.getElem?_cons_zero, List.getElem?_cons_succ] at a2 b2
  have H1 := hid (And.intro hL0 (And.intro dR0 (And.intro vR0 (And.intro lR0 k1))))
  clear ql hL0 dR0 vR0 lR0 k1
  go_wp2_with fail
  clear a2 b2
  go_loopw [6, 7, 8] (fun v6 v7 v8 wr => ∃ (j x : Nat) (O R : List UInt8), v6 = .string ⟨O.toArray⟩ ∧ v7 = .string ⟨R.toArray⟩ ∧ v8 = .int .i64 ((sa : Int) - (sb : Int) + (j : Int)) ∧ Kp [] W0 wr ∧ LongI y (A ++ List.replicate j 48) O x ∧ Digs R ∧ val R = x ∧ R.length ≤ T ∧ (∀ i, i < j → ¬ stopJ (val A) y i) ∧ j ≤ 94) (fun _ _ v8 _ => (300 - intOf v8).toNat)
  case atStart => exact ⟨0, x0, O0, R0, rfl, rfl, by go_num, H1.out.2.2.2.2, by rw [List.replicate_zero, List.append_nil]; exact H1.out.1, H1.out.2.1, H1.out.2.2.1, H1.out.2.2.2.1, fun i hi => by omega, by omega⟩
  case round =>
    obtain ⟨j, x, O, R, rfl, rfl, rfl, hkp, hL, dR, vR, lR, hns, hj⟩ := hrel
    obtain ⟨hst, hv, hx⟩ := hL.stop
    have hOl : O.length ≤ 200 := by rw [hL.2.1, List.length_append, List.length_replicate]; omega
    have hO := hL.1
    have hOs : (⟨O.toArray⟩ : ByteArray).size = O.length := size_mk _
    have qn := fun W => qnought_any W R dR (by omega)
    rw [vR] at qn
    have qf := fun W => qfirst_any W O hO (by omega)
    have hdl : (dstr (val O)).length ≤ O.length := length_dstr_le (val_lt O hO)
    have hdi := length_dstr_iff (n := val O) (k := 34)
    obtain ⟨z0, hz0⟩ : ∃ z, z = decide (x = 0) := ⟨_, rfl⟩
    rw [← hz0] at qn
    obtain ⟨dl, hdlD⟩ : ∃ l, l = (dstr (val O)).length := ⟨_, rfl⟩
    rw [← hdlD] at qf hdl hdi
    obtain ⟨f, hf⟩ : ∃ f, f = O.length - dl := ⟨_, rfl⟩
    rw [← hf] at qf
    have wf : IntKind.i64.wrap ((O.length : Int) - (f : Int)) = (dl : Int) := by rw [IntWalk.i64_in _ (by omega)]; omega
    by_cases hstop : stopJ (val A) y j
    · have hq := quoJ_is hstop (by omega) hns
      have hex : z0 = true ∨ (z0 = false ∧ decide ((dl : Int) < 35) = false) := by
        rcases hst.1 hstop with h | h
        · exact .inl (by rw [hz0, decide_eq_true h])
        · by_cases h0 : x = 0
          · exact .inl (by rw [hz0, decide_eq_true h0])
          · refine .inr ⟨by rw [hz0, decide_eq_false h0], decide_eq_false (fun h2 => ?_)⟩
            have := hdi.1 (by omega)
            omega
      have hval : RR = scD (na != nb) (rndK (val O) (!z0)) ((sa : Int) - (sb : Int) + (j : Int) - (rndT (val O) : Nat)) := by
        have h := HR.out
        rw [hq, ← hv, ← hx] at h
        rw [h, hz0]
        congr 2
        by_cases h0 : x = 0
        · rw [decide_eq_true h0, decide_eq_false (fun h => h h0)]; rfl
        · rw [decide_eq_false h0, decide_eq_true h0]; rfl
      have HV := hid (And.intro hval (And.intro hkp (And.intro hO (And.intro hdi (And.intro hdlD hf)))))
      clear hval hkp hst hv hx hns hstop hq hdi hz0 hL vR lR hdlD hf
      have qn1 := fun W => qn W
      have qf1 := fun W => qf W
      obtain ⟨c1, hc1⟩ : ∃ c : Int, c = (sa : Int) - (sb : Int) + (j : Int) := ⟨_, rfl⟩
      rw [← hc1] at HV
      have Hc1 := hid hc1
      have bc : -200 ≤ c1 ∧ c1 ≤ 200 := by omega
      obtain ⟨bc1, bc2⟩ := bc
      clear hc1
      have hf9 : f ≤ 200 := by have := HV.out.2.2.2.2.2; omega
      obtain ⟨ap, hat⟩ : ∃ x, x = f + 34 := ⟨_, rfl⟩
      have wf2 : IntKind.i64.wrap ((f : Int) + 34) = (ap : Int) := by rw [IntWalk.i64_in _ (by omega)]; omega
      have hat9 : ap ≤ 234 := by omega
      have Hat := hid hat
      clear hat
      obtain ⟨t2, ht2⟩ : ∃ t, decide (ap < O.length) = t := ⟨_, rfl⟩
      have Ht2 := hid ht2
      clear ht2
      rcases hex with rfl | ⟨rfl, b35⟩
      · go_wp2_with fail
        (with_reducible refine (qn _).mono ?_)
        rintro e w5 ⟨rfl, rfl⟩
        clear qn qf
        simp only [Bool.not_true] at HV
        go_wp2_with fail
        (with_reducible refine (qf1 _).mono ?_)
        rintro e w5 ⟨rfl, rfl⟩
        have ht2 := Ht2.out
        go_upto_if 65 with fail
        clear ht2
        obtain ⟨W5, hW5⟩ : ∃ W5 : World, W5 = w5 := ⟨_, rfl⟩
        rw [← hW5] at HV ⊢
        clear hW5
        go_cut [6, 8, 65] (fun v6 v8 _ wx => ∃ K : List UInt8, v6 = .string ⟨K.toArray⟩ ∧ Digs K ∧ val K = rndK (val O) false ∧ K.length ≤ 300 ∧ v8 = .int .i64 ((sa : Int) - (sb : Int) + (j : Int) - (rndT (val O) : Nat)) ∧ Kp [] W0 wx)
        case first =>
          cases t2 with
          | false =>
            have hsm : val O < 10 ^ 34 := by
              have h1 := of_decide_eq_false Ht2.out
              have h2 := HV.out.2.2.2.2.2
              have h3 := Hat.out
              exact HV.out.2.2.2.1.1 (by omega)
            have h1 : rndT (val O) = 0 := by unfold rndT; rw [if_pos hsm]
            have h2 : val O = rndK (val O) false := by unfold rndK; rw [if_pos hsm]
            have H12 := hid (And.intro h1 h2)
            clear h1 h2 hsm
            go_wp2_with fail
            go_meet
            exact ⟨O, rfl, HV.out.2.2.1, H12.out.2, by omega, by rw [H12.out.1]; go_num, HV.out.2.1⟩
          | true =>
            have hO := HV.out.2.2.1
            have hbig : 10 ^ 34 ≤ val O := by
              have h1 := of_decide_eq_true Ht2.out
              have h2 := HV.out.2.2.2.2.2
              have h3 := Hat.out
              rcases Nat.lt_or_ge (val O) (10 ^ 34) with h | h
              · have := HV.out.2.2.2.1.2 h
                omega
              · exact h
            obtain ⟨t, ht, t0, tl9, hlt, hv1, hv2, hv3⟩ := rnd_parts hO hbig
            rw [← HV.out.2.2.2.2.1] at hlt
            have hap : O.length - t = ap := by rw [Hat.out, HV.out.2.2.2.2.2]; omega
            rw [hap] at hv1 hv2 hv3
            obtain ⟨c, tl, hct⟩ : ∃ c tl, O.drop ap = c :: tl := by
              cases h : O.drop ap with
              | nil => rw [h] at hv3; simp at hv3; omega
              | cons c tl => exact ⟨c, tl, rfl⟩
            have hup := rnd_up hO hbig false ht (c := c) (tl := tl) (by rw [hap]; exact hct) _ rfl
            have hkept := rnd_kept hO hbig false
            rw [ht, hap] at hkept
            rw [hap] at hup
            obtain ⟨up, hupD⟩ : ∃ up, up = rndUp (val O) t false := ⟨_, rfl⟩
            rw [← hupD] at hup hkept
            have htd : Digs tl := fun x hx => hO.drop ap x (by rw [hct]; simp [hx])
            have hcd : Dig c := hO.drop ap c (by rw [hct]; simp)
            have hHd : Digs (O.take ap) := hO.take ap
            have hx1 := extract_mk O 0 ap
            rw [List.drop_zero] at hx1
            have hx2 := extract_mk O ap O.length
            rw [List.take_length, hct] at hx2
            have hHl : (O.take ap).length = ap := by rw [List.length_take]; omega
            obtain ⟨H, hH⟩ : ∃ H, H = O.take ap := ⟨_, rfl⟩
            rw [← hH] at hHd hx1 hHl hup hkept
            obtain ⟨pq, hpq⟩ : ∃ pq, ap = pq + 1 := ⟨ap - 1, by have := Hat.out; omega⟩
            have hpH : pq < H.length := by rw [hHl]; omega
            have hpar : val H % 2 = (H[pq].toNat - 48) % 2 := by
              have h1 := List.take_append_getElem hpH
              rw [List.take_of_length_le (i := pq + 1) (by rw [hHl]; omega)] at h1
              have h2 := val_snoc (H.take pq) H[pq]
              rw [h1] at h2
              omega
            have hdH := dig_range (hHd _ (List.getElem_mem hpH))
            obtain ⟨d, hd⟩ : ∃ d, d = H[pq].toNat := ⟨_, rfl⟩
            have igH := byteAt H pq d hpH hd
            rw [← hd] at hpar hdH
            obtain ⟨x2, hx9⟩ : ∃ x2, x2 = d - 48 := ⟨_, rfl⟩
            obtain ⟨y2, hy2⟩ : ∃ y2, y2 = x2 % 2 := ⟨_, rfl⟩
            rw [← hx9, ← hy2] at hpar
            rw [hpar] at hup
            obtain ⟨m, hm⟩ : ∃ m, m = c.toNat := ⟨_, rfl⟩
            have hm9 : m < 256 := by rw [hm]; exact UInt8.toNat_lt _
            have igF := byteAt (c :: tl) 0 m (by simp) hm
            obtain ⟨F, hF⟩ : ∃ F, F = c :: tl := ⟨_, rfl⟩
            have hFl : F.length = t := by rw [hF, ← hct]; exact hv3
            have hFs : (⟨F.toArray⟩ : ByteArray).size = F.length := size_mk _
            have hHs : (⟨H.toArray⟩ : ByteArray).size = H.length := size_mk _
            have hx3 := extract_mk F 1 F.length
            rw [List.take_length, show F.drop 1 = tl by rw [hF]; rfl] at hx3
            rw [← hF] at igF hx2
            have htl9 : tl.length ≤ 200 := by have h1 := congrArg List.length hF; rw [List.length_cons] at h1; omega
            have i1 : (0 : Int) < (F.length : Int) := by omega
            have i2 : (1 : Int) ≤ (F.length : Int) := by omega
            have i3 : (0 : Int) ≤ (ap : Int) := by omega
            have i4 : (ap : Int) ≤ (O.length : Int) := by omega
            have qt := fun W => qnought_any W tl htd (by omega)
            obtain ⟨zt, hzt⟩ : ∃ z, z = decide (val tl = 0) := ⟨_, rfl⟩
            rw [← hzt] at qt
            obtain ⟨b53, hb53⟩ : ∃ z, ((m : Int) == 53) = z := ⟨_, rfl⟩
            obtain ⟨g53, hg53⟩ : ∃ z, decide ((53 : Int) ≤ (m : Int)) = z := ⟨_, rfl⟩
            have hcm : b53 = decide (c = 53) := by
              rw [← hb53]
              by_cases h : c = 53
              · rw [decide_eq_true h, hm, h]; rfl
              · rw [decide_eq_false h, beq_eq_false_iff_ne, hm]
                intro h2
                exact h (UInt8.toNat_inj.1 (by rw [show (53 : UInt8).toNat = 53 from rfl]; omega))
            obtain ⟨hf2, hhf⟩ : ∃ z, z = (b53 && (zt && true)) := ⟨_, rfl⟩
            -- what is to be
            have hupF : up = if hf2 then decide (y2 = 1) else g53 := by
              rw [hup, hhf, hcm, hzt, ← hg53]
              by_cases h1 : c = 53
              · rw [if_pos h1, decide_eq_true h1]
                have hm53 : m = 53 := by rw [hm, h1]; rfl
                by_cases h2 : val tl = 0
                · rw [decide_eq_true h2, decide_eq_false (fun h => h h2), hm53]
                  simp
                · rw [decide_eq_false h2, decide_eq_true h2, hm53]
                  simp
              · rw [if_neg h1, decide_eq_false h1]
                have hm53 : m ≠ 53 := fun e => h1 (UInt8.toNat_inj.1 (by rw [← hm, e]; rfl))
                rw [← hm]
                simp
                omega
            have u1 : IntKind.u8.wrap ((d : Int) - 48) = (x2 : Int) := by rw [show (d : Int) - 48 = (x2 : Int) by omega]; exact IntWalk.u8_in _ (by omega)
            have u3 : Int.tmod (x2 : Int) 2 = (y2 : Int) := by rw [hy2]; rfl
            have u2 : IntKind.u8.wrap (y2 : Int) = (y2 : Int) := IntWalk.u8_in _ (by omega)
            obtain ⟨bo, hbo⟩ : ∃ b, ((y2 : Int) == 1) = b := ⟨_, rfl⟩
            have hbo2 : bo = decide (y2 = 1) := by
              rw [← hbo]
              by_cases h : y2 = 1
              · rw [decide_eq_true h, h]; rfl
              · rw [decide_eq_false h, beq_eq_false_iff_ne]; omega
            rw [← hbo2] at hupF
            have qw := fun W => qwide_any W [49] ap (by show 1 ≤ ap; omega) (by omega)
            have qp := fun W => rplus_any W H (List.replicate (ap - [(49 : UInt8)].length) 48 ++ [49]) hHd ((Digs.zeros _).append (by decide)) (by rw [hHl, List.length_append, List.length_replicate]; simp; omega) (by omega)
            rw [val_one_wide, hHl] at qp
            obtain ⟨G, hG⟩ : ∃ G : List UInt8, G = List.replicate (ap - [(49 : UInt8)].length) 48 ++ [49] := ⟨_, rfl⟩
            simp only [← hG] at qw qp
            obtain ⟨K2, hK2⟩ : ∃ K, K = digN (ap + 1) (val H + 1) := ⟨_, rfl⟩
            have vK2 : val K2 = val H + 1 := by
              rw [hK2, val_digN, Nat.mod_eq_of_lt]
              have h1 := val_lt H hHd
              rw [hHl] at h1
              rw [Nat.pow_succ]
              omega
            have dK2 : Digs K2 := by rw [hK2]; exact digs_digN _ _
            have lK2 : K2.length = ap + 1 := by rw [hK2]; exact length_digN _ _
            simp only [← hK2] at qp
            have wq : IntKind.i64.wrap ((ap : Int) - 1) = (pq : Int) := by rw [IntWalk.i64_in _ (by omega)]; omega
            have i5 : (pq : Int) < (ap : Int) := by omega
            have i6 : (0 : Int) ≤ (pq : Int) := by omega
            have HU := hid (And.intro hupF (And.intro hkept (And.intro hhf (And.intro hHd (And.intro vK2 (And.intro dK2 (And.intro lK2 (And.intro ht hFl))))))))
            have Hb53 := hid hb53
            have Hg53 := hid hg53
            have Hbo := hid hbo
            have hFl9 : F.length ≤ 200 := by omega
            clear hup hkept hupD htd hcd hHd hct hH hpH hpar hdH hd hx9 hy2 hm hF hFl hzt hcm hhf hupF hbo2 hG hK2 vK2 dK2 lK2 ht t0 tl9 hlt hv1 hv2 hv3 hap hO hbig hpq hbo hg53 hb53
            have hb53 := Hb53.out
            have qn2 := fun W => qn1 W
            go_upto_region 14 with fail
            clear hb53
            go_cut [14] (fun v wx => v = .bool hf2 ∧ wx = W5)
            case first =>
              have hhf := HU.out.2.2.1
              cases b53 with
              | false =>
                have H9 := hid (show hf2 = false from hhf)
                have hb53 := Hb53.out
                clear hhf
                go_wp2_with fail
                go_meet
                exact ⟨by rw [H9.out], rfl⟩
              | true =>
                have hb53 := Hb53.out
                cases zt with
                | false =>
                  have H9 := hid (show hf2 = false from hhf)
                  clear hhf
                  go_wp2_with fail
                  (with_reducible refine (qt _).mono ?_)
                  rintro e w6 ⟨rfl, rfl⟩
                  go_wp2_with fail
                  go_meet
                  exact ⟨by rw [H9.out], rfl⟩
                | true =>
                  have H9 := hid (show hf2 = true from hhf)
                  clear hhf
                  go_wp2_with fail
                  (with_reducible refine (qt _).mono ?_)
                  rintro e w6 ⟨rfl, rfl⟩
                  go_wp2_with fail
                  (with_reducible refine (qn2 _).mono ?_)
                  rintro e w7 ⟨rfl, rfl⟩
                  go_wp2_with fail
                  go_meet
                  exact ⟨by rw [H9.out], rfl⟩
            case rest =>
              obtain ⟨rfl, rfl⟩ := hcut
              obtain ⟨W6, hW6⟩ : ∃ W6 : World, W6 = wc := ⟨_, rfl⟩
              rw [← hW6] at HV ⊢
              clear hW6
              have hg53 := Hg53.out
              go_upto_if 87 with fail
              clear hg53
              go_cut [15, 87] (fun v _ wx => v = .bool up ∧ wx = W6)
              case first =>
                cases hf2 with
                | true =>
                  have H9 := hid (show up = bo from HU.out.1)
                  have hbo := Hbo.out
                  go_wp2_with fail
                  go_meet
                  exact ⟨by rw [H9.out], rfl⟩
                | false =>
                  have H9 := hid (show up = g53 from HU.out.1)
                  go_wp2_with fail
                  go_meet
                  exact ⟨by rw [H9.out], rfl⟩
              case rest =>
                obtain ⟨rfl, rfl⟩ := hcut
                have hc1a := Hc1.out
                have wsub : IntKind.i64.wrap ((sa : Int) - (sb : Int) + (j : Int) - (F.length : Int)) = (sa : Int) - (sb : Int) + (j : Int) - (F.length : Int) := IntWalk.i64_in _ (by omega)
                have Hrt := hid (show (sa : Int) - (sb : Int) + (j : Int) - ((rndT (val O) : Nat) : Int) = (sa : Int) - (sb : Int) + (j : Int) - (F.length : Int) by rw [HU.out.2.2.2.2.2.2.2.1, HU.out.2.2.2.2.2.2.2.2])
                have HHl := hid hHl
                clear hc1a
                go_upto_if 100 with fail
                cases up with
                | true =>
                  go_wp2_with fail
                  (with_reducible refine (qw _).mono ?_)
                  rintro e w6 ⟨rfl, rfl⟩
                  go_wp2_with fail
                  (with_reducible refine (qp _).mono ?_)
                  rintro e w7 ⟨rfl, k7⟩
                  have HK7 := hid (HV.out.2.1.nil k7)
                  clear k7 qp
                  go_wp2_with fail
                  go_meet
                  exact ⟨K2, rfl, HU.out.2.2.2.2.2.1, by rw [HU.out.2.2.2.2.1, HU.out.2.1]; rfl, by have := HU.out.2.2.2.2.2.2.1; omega, by rw [Hrt.out], HK7.out⟩
                | false =>
                  go_wp2_with fail
                  go_meet
                  exact ⟨H, rfl, HU.out.2.2.2.1, by rw [HU.out.2.1]; rfl, by have := HHl.out; omega, by rw [Hrt.out], HV.out.2.1⟩
        case rest =>
          obtain ⟨K, rfl, dK, vK, lK, rfl, hk6⟩ := hcut
          have hval := HV.out.1
          rw [← vK] at hval
          have hrt9 : rndT (val O) ≤ 300 := by
            unfold rndT
            split
            · omega
            · rw [← HV.out.2.2.2.2.1]; omega
          obtain ⟨sc, hsc⟩ : ∃ sc : Int, sc = c1 - (rndT (val O) : Nat) := ⟨_, rfl⟩
          have hsc2 : (sa : Int) - (sb : Int) + (j : Int) - ((rndT (val O) : Nat) : Int) = sc := by rw [hsc, Hc1.out]
          rw [← hsc] at hval
          have bsc1 : -600 ≤ sc := by omega
          have bsc2 : sc ≤ 600 := by omega
          rw [hsc2]
          obtain ⟨D1, S, hD1, hS, hDl1, hd1, hsc1⟩ : ∃ (D1 : List UInt8) (S : Nat), (D1 = if sc < 0 then K ++ List.replicate (-sc).toNat 48 else K) ∧ S = (if sc < 0 then 0 else sc.toNat) ∧ D1.length ≤ 20000 ∧ Digs D1 ∧ scD (na != nb) (val K) sc = norm (na != nb) (val D1) S := by
            rcases sc_cases (na != nb) (val K) sc with ⟨h, e⟩ | ⟨h, e⟩
            · refine ⟨_, _, rfl, rfl, ?_, ?_, ?_⟩
              · rw [if_pos h, List.length_append, List.length_replicate]; omega
              · rw [if_pos h]; exact dK.append (Digs.zeros _)
              · rw [if_pos h, if_pos h, val_zeros_end]; exact e
            · refine ⟨_, _, rfl, rfl, ?_, ?_, ?_⟩
              · rw [if_neg h]; omega
              · rw [if_neg h]; exact dK
              · rw [if_neg h, if_neg h]; exact e
          have hS9 : S ≤ 10000 := by rw [hS]; split <;> omega
          rw [hsc1] at hval
          have qnm := fun W => (rnorm_any W (na != nb) D1 hd1 (by omega) S (by omega)).mono fun e w' h => (⟨by
            have h2 := h.1
            rw [← hval, resV_is] at h2
            exact h2, h.2⟩ : e = .returned (.tuple #[.agg #[.bool (oN RR), .string ⟨(oL RR).toArray⟩, .int .i64 (oS RR)], .int .i64 (oE RR)]) ∧ Kp [] W w')
          simp only [bne] at qnm
          obtain ⟨W7, hW7⟩ : ∃ W7 : World, W7 = wc := ⟨_, rfl⟩
          rw [← hW7] at hk6 ⊢
          have HK6 := hid hk6
          have HDS := hid (And.intro hD1 hS)
          obtain ⟨t7, b7⟩ : ∃ t, decide (sc < 0) = t := ⟨_, rfl⟩
          have B7 := hid b7
          clear hD1 hS hd1 hsc1 hval hsc hsc2 vK dK hk6 hW7
          go_upto_if 107 with fail
          clear b7
          go_cut [6, 8, 107] (fun v6 v8 _ wx => v6 = .string ⟨D1.toArray⟩ ∧ v8 = .int .i64 (S : Int) ∧ wx = W7)
          case first =>
            cases t7 with
            | true =>
              have hs : sc < 0 := of_decide_eq_true B7.out
              obtain ⟨n, hn⟩ : ∃ n : Nat, n = (-sc).toNat := ⟨_, rfl⟩
              have en : -sc = (n : Int) := by omega
              have hx1 := HDS.out.1
              have hx2 := HDS.out.2
              rw [if_pos hs, ← hn] at hx1
              rw [if_pos hs] at hx2
              have qr := fun W => qzeros_any W n (by omega)
              have hadd := fun W => run_add_text (P := Tryd.prog) K (List.replicate n 48) D1 hx1 (by rw [List.length_replicate]; omega) W
              obtain ⟨Z, hZ⟩ : ∃ Z : List UInt8, Z = List.replicate n 48 := ⟨_, rfl⟩
              simp only [← hZ] at qr hadd
              have hw64 : IntKind.i64.wrap (n : Int) = (n : Int) := IntWalk.i64_in _ (by omega)
              have Hx2 := hid hx2
              clear hx1 hx2 hZ hn hs
              go_wp2_with fail
              (with_reducible refine (qr _).mono ?_)
              rintro e w8 ⟨rfl, rfl⟩
              clear qr
              go_wp2_with fail
              go_meet
              exact ⟨rfl, by rw [Hx2.out]; rfl, rfl⟩
            | false =>
              have hs : ¬ sc < 0 := of_decide_eq_false B7.out
              have hx1 := HDS.out.1
              have hx2 := HDS.out.2
              rw [if_neg hs] at hx1 hx2
              have hsS : sc = (S : Int) := by omega
              have Hx1 := hid (And.intro hx1 hsS)
              clear hx1 hx2 hsS hs
              go_wp2_with fail
              go_meet
              exact ⟨by rw [Hx1.out.1], by rw [← Hx1.out.2], rfl⟩
          case rest =>
            obtain ⟨rfl, rfl, rfl⟩ := hcut
            have a0 : wc.cell? ⟨w.heap.size, 0, none⟩ = _ := (H0.out.2.1.keep HK6.out (by simp)).cell 0
            have b0 : wc.cell? ⟨w.heap.size + 1, 0, none⟩ = _ := (H0.out.2.2.1.keep HK6.out (by simp)).cell 0
            simp only [List.getElem?_cons_zero] at a0 b0
            go_wp2_with fail
            (with_reducible refine (qnm _).mono ?_)
            rintro e w9 ⟨rfl, k9⟩
            have hk9 := HK6.out.nil k9
            obtain ⟨_, _, _, c0, c1', c2, f0, f1, f2⟩ := (H0.out.2.2.2.kept hk9).cells
            have HK9 := hid (H0.out.1.nil hk9)
            clear k9 hk9 qnm a0 b0
            go_wp2_with fail
            exact bodyPost_ret (v := .tuple #[.agg #[.bool (oN RR), .string ⟨(oL RR).toArray⟩, .int .i64 (oS RR)], .int .i64 (oE RR)]) (by simp [results, Tryd.results38, go_sem, c0, c1', c2]) rfl ⟨by rw [resV_is], kp_room3 HK9.out (by omega) _ _ _⟩
      · go_wp2_with fail
        (with_reducible refine (qn _).mono ?_)
        rintro e w5 ⟨rfl, rfl⟩
        go_wp2_with fail
        (with_reducible refine (qf _).mono ?_)
        rintro e w5 ⟨rfl, rfl⟩
        clear qn qf
        simp only [Bool.not_false] at HV
        go_wp2_with fail
        (with_reducible refine (qf1 _).mono ?_)
        rintro e w5 ⟨rfl, rfl⟩
        have ht2 := Ht2.out
        go_upto_if 65 with fail
        clear ht2
        obtain ⟨W5, hW5⟩ : ∃ W5 : World, W5 = w5 := ⟨_, rfl⟩
        rw [← hW5] at HV ⊢
        clear hW5
        go_cut [6, 8, 65] (fun v6 v8 _ wx => ∃ K : List UInt8, v6 = .string ⟨K.toArray⟩ ∧ Digs K ∧ val K = rndK (val O) true ∧ K.length ≤ 300 ∧ v8 = .int .i64 ((sa : Int) - (sb : Int) + (j : Int) - (rndT (val O) : Nat)) ∧ Kp [] W0 wx)
        case first =>
          cases t2 with
          | false =>
            have hsm : val O < 10 ^ 34 := by
              have h1 := of_decide_eq_false Ht2.out
              have h2 := HV.out.2.2.2.2.2
              have h3 := Hat.out
              exact HV.out.2.2.2.1.1 (by omega)
            have h1 : rndT (val O) = 0 := by unfold rndT; rw [if_pos hsm]
            have h2 : val O = rndK (val O) true := by unfold rndK; rw [if_pos hsm]
            have H12 := hid (And.intro h1 h2)
            clear h1 h2 hsm
            go_wp2_with fail
            go_meet
            exact ⟨O, rfl, HV.out.2.2.1, H12.out.2, by omega, by rw [H12.out.1]; go_num, HV.out.2.1⟩
          | true =>
            have hO := HV.out.2.2.1
            have hbig : 10 ^ 34 ≤ val O := by
              have h1 := of_decide_eq_true Ht2.out
              have h2 := HV.out.2.2.2.2.2
              have h3 := Hat.out
              rcases Nat.lt_or_ge (val O) (10 ^ 34) with h | h
              · have := HV.out.2.2.2.1.2 h
                omega
              · exact h
            obtain ⟨t, ht, t0, tl9, hlt, hv1, hv2, hv3⟩ := rnd_parts hO hbig
            rw [← HV.out.2.2.2.2.1] at hlt
            have hap : O.length - t = ap := by rw [Hat.out, HV.out.2.2.2.2.2]; omega
            rw [hap] at hv1 hv2 hv3
            obtain ⟨c, tl, hct⟩ : ∃ c tl, O.drop ap = c :: tl := by
              cases h : O.drop ap with
              | nil => rw [h] at hv3; simp at hv3; omega
              | cons c tl => exact ⟨c, tl, rfl⟩
            have hup := rnd_up hO hbig true ht (c := c) (tl := tl) (by rw [hap]; exact hct) _ rfl
            have hkept := rnd_kept hO hbig true
            rw [ht, hap] at hkept
            rw [hap] at hup
            obtain ⟨up, hupD⟩ : ∃ up, up = rndUp (val O) t true := ⟨_, rfl⟩
            rw [← hupD] at hup hkept
            have htd : Digs tl := fun x hx => hO.drop ap x (by rw [hct]; simp [hx])
            have hcd : Dig c := hO.drop ap c (by rw [hct]; simp)
            have hHd : Digs (O.take ap) := hO.take ap
            have hx1 := extract_mk O 0 ap
            rw [List.drop_zero] at hx1
            have hx2 := extract_mk O ap O.length
            rw [List.take_length, hct] at hx2
            have hHl : (O.take ap).length = ap := by rw [List.length_take]; omega
            obtain ⟨H, hH⟩ : ∃ H, H = O.take ap := ⟨_, rfl⟩
            rw [← hH] at hHd hx1 hHl hup hkept
            obtain ⟨pq, hpq⟩ : ∃ pq, ap = pq + 1 := ⟨ap - 1, by have := Hat.out; omega⟩
            have hpH : pq < H.length := by rw [hHl]; omega
            have hpar : val H % 2 = (H[pq].toNat - 48) % 2 := by
              have h1 := List.take_append_getElem hpH
              rw [List.take_of_length_le (i := pq + 1) (by rw [hHl]; omega)] at h1
              have h2 := val_snoc (H.take pq) H[pq]
              rw [h1] at h2
              omega
            have hdH := dig_range (hHd _ (List.getElem_mem hpH))
            obtain ⟨d, hd⟩ : ∃ d, d = H[pq].toNat := ⟨_, rfl⟩
            have igH := byteAt H pq d hpH hd
            rw [← hd] at hpar hdH
            obtain ⟨x2, hx9⟩ : ∃ x2, x2 = d - 48 := ⟨_, rfl⟩
            obtain ⟨y2, hy2⟩ : ∃ y2, y2 = x2 % 2 := ⟨_, rfl⟩
            rw [← hx9, ← hy2] at hpar
            rw [hpar] at hup
            obtain ⟨m, hm⟩ : ∃ m, m = c.toNat := ⟨_, rfl⟩
            have hm9 : m < 256 := by rw [hm]; exact UInt8.toNat_lt _
            have igF := byteAt (c :: tl) 0 m (by simp) hm
            obtain ⟨F, hF⟩ : ∃ F, F = c :: tl := ⟨_, rfl⟩
            have hFl : F.length = t := by rw [hF, ← hct]; exact hv3
            have hFs : (⟨F.toArray⟩ : ByteArray).size = F.length := size_mk _
            have hHs : (⟨H.toArray⟩ : ByteArray).size = H.length := size_mk _
            have hx3 := extract_mk F 1 F.length
            rw [List.take_length, show F.drop 1 = tl by rw [hF]; rfl] at hx3
            rw [← hF] at igF hx2
            have htl9 : tl.length ≤ 200 := by have h1 := congrArg List.length hF; rw [List.length_cons] at h1; omega
            have i1 : (0 : Int) < (F.length : Int) := by omega
            have i2 : (1 : Int) ≤ (F.length : Int) := by omega
            have i3 : (0 : Int) ≤ (ap : Int) := by omega
            have i4 : (ap : Int) ≤ (O.length : Int) := by omega
            have qt := fun W => qnought_any W tl htd (by omega)
            obtain ⟨zt, hzt⟩ : ∃ z, z = decide (val tl = 0) := ⟨_, rfl⟩
            rw [← hzt] at qt
            obtain ⟨b53, hb53⟩ : ∃ z, ((m : Int) == 53) = z := ⟨_, rfl⟩
            obtain ⟨g53, hg53⟩ : ∃ z, decide ((53 : Int) ≤ (m : Int)) = z := ⟨_, rfl⟩
            have hcm : b53 = decide (c = 53) := by
              rw [← hb53]
              by_cases h : c = 53
              · rw [decide_eq_true h, hm, h]; rfl
              · rw [decide_eq_false h, beq_eq_false_iff_ne, hm]
                intro h2
                exact h (UInt8.toNat_inj.1 (by rw [show (53 : UInt8).toNat = 53 from rfl]; omega))
            obtain ⟨hf2, hhf⟩ : ∃ z, z = (b53 && (zt && false)) := ⟨_, rfl⟩
            -- what is to be
            have hupF : up = if hf2 then decide (y2 = 1) else g53 := by
              rw [hup, hhf, hcm, hzt, ← hg53]
              by_cases h1 : c = 53
              · rw [if_pos h1, decide_eq_true h1]
                have hm53 : m = 53 := by rw [hm, h1]; rfl
                by_cases h2 : val tl = 0
                · rw [decide_eq_true h2, decide_eq_false (fun h => h h2), hm53]
                  simp
                · rw [decide_eq_false h2, decide_eq_true h2, hm53]
                  simp
              · rw [if_neg h1, decide_eq_false h1]
                have hm53 : m ≠ 53 := fun e => h1 (UInt8.toNat_inj.1 (by rw [← hm, e]; rfl))
                rw [← hm]
                simp
                omega
            have u1 : IntKind.u8.wrap ((d : Int) - 48) = (x2 : Int) := by rw [show (d : Int) - 48 = (x2 : Int) by omega]; exact IntWalk.u8_in _ (by omega)
            have u3 : Int.tmod (x2 : Int) 2 = (y2 : Int) := by rw [hy2]; rfl
            have u2 : IntKind.u8.wrap (y2 : Int) = (y2 : Int) := IntWalk.u8_in _ (by omega)
            obtain ⟨bo, hbo⟩ : ∃ b, ((y2 : Int) == 1) = b := ⟨_, rfl⟩
            have hbo2 : bo = decide (y2 = 1) := by
              rw [← hbo]
              by_cases h : y2 = 1
              · rw [decide_eq_true h, h]; rfl
              · rw [decide_eq_false h, beq_eq_false_iff_ne]; omega
            rw [← hbo2] at hupF
            have qw := fun W => qwide_any W [49] ap (by show 1 ≤ ap; omega) (by omega)
            have qp := fun W => rplus_any W H (List.replicate (ap - [(49 : UInt8)].length) 48 ++ [49]) hHd ((Digs.zeros _).append (by decide)) (by rw [hHl, List.length_append, List.length_replicate]; simp; omega) (by omega)
            rw [val_one_wide, hHl] at qp
            obtain ⟨G, hG⟩ : ∃ G : List UInt8, G = List.replicate (ap - [(49 : UInt8)].length) 48 ++ [49] := ⟨_, rfl⟩
            simp only [← hG] at qw qp
            obtain ⟨K2, hK2⟩ : ∃ K, K = digN (ap + 1) (val H + 1) := ⟨_, rfl⟩
            have vK2 : val K2 = val H + 1 := by
              rw [hK2, val_digN, Nat.mod_eq_of_lt]
              have h1 := val_lt H hHd
              rw [hHl] at h1
              rw [Nat.pow_succ]
              omega
            have dK2 : Digs K2 := by rw [hK2]; exact digs_digN _ _
            have lK2 : K2.length = ap + 1 := by rw [hK2]; exact length_digN _ _
            simp only [← hK2] at qp
            have wq : IntKind.i64.wrap ((ap : Int) - 1) = (pq : Int) := by rw [IntWalk.i64_in _ (by omega)]; omega
            have i5 : (pq : Int) < (ap : Int) := by omega
            have i6 : (0 : Int) ≤ (pq : Int) := by omega
            have HU := hid (And.intro hupF (And.intro hkept (And.intro hhf (And.intro hHd (And.intro vK2 (And.intro dK2 (And.intro lK2 (And.intro ht hFl))))))))
            have Hb53 := hid hb53
            have Hg53 := hid hg53
            have Hbo := hid hbo
            have hFl9 : F.length ≤ 200 := by omega
            clear hup hkept hupD htd hcd hHd hct hH hpH hpar hdH hd hx9 hy2 hm hF hFl hzt hcm hhf hupF hbo2 hG hK2 vK2 dK2 lK2 ht t0 tl9 hlt hv1 hv2 hv3 hap hO hbig hpq hbo hg53 hb53
            have hb53 := Hb53.out
            have qn2 := fun W => qn1 W
            go_upto_region 14 with fail
            clear hb53
            go_cut [14] (fun v wx => v = .bool hf2 ∧ wx = W5)
            case first =>
              have hhf := HU.out.2.2.1
              cases b53 with
              | false =>
                have H9 := hid (show hf2 = false from hhf)
                have hb53 := Hb53.out
                clear hhf
                go_wp2_with fail
                go_meet
                exact ⟨by rw [H9.out], rfl⟩
              | true =>
                have hb53 := Hb53.out
                cases zt with
                | false =>
                  have H9 := hid (show hf2 = false from hhf)
                  clear hhf
                  go_wp2_with fail
                  (with_reducible refine (qt _).mono ?_)
                  rintro e w6 ⟨rfl, rfl⟩
                  go_wp2_with fail
                  go_meet
                  exact ⟨by rw [H9.out], rfl⟩
                | true =>
                  have H9 := hid (show hf2 = false from hhf)
                  clear hhf
                  go_wp2_with fail
                  (with_reducible refine (qt _).mono ?_)
                  rintro e w6 ⟨rfl, rfl⟩
                  go_wp2_with fail
                  (with_reducible refine (qn2 _).mono ?_)
                  rintro e w7 ⟨rfl, rfl⟩
                  go_wp2_with fail
                  go_meet
                  exact ⟨by rw [H9.out], rfl⟩
            case rest =>
              obtain ⟨rfl, rfl⟩ := hcut
              obtain ⟨W6, hW6⟩ : ∃ W6 : World, W6 = wc := ⟨_, rfl⟩
              rw [← hW6] at HV ⊢
              clear hW6
              have hg53 := Hg53.out
              go_upto_if 87 with fail
              clear hg53
              go_cut [15, 87] (fun v _ wx => v = .bool up ∧ wx = W6)
              case first =>
                cases hf2 with
                | true =>
                  have H9 := hid (show up = bo from HU.out.1)
                  have hbo := Hbo.out
                  go_wp2_with fail
                  go_meet
                  exact ⟨by rw [H9.out], rfl⟩
                | false =>
                  have H9 := hid (show up = g53 from HU.out.1)
                  go_wp2_with fail
                  go_meet
                  exact ⟨by rw [H9.out], rfl⟩
              case rest =>
                obtain ⟨rfl, rfl⟩ := hcut
                have hc1a := Hc1.out
                have wsub : IntKind.i64.wrap ((sa : Int) - (sb : Int) + (j : Int) - (F.length : Int)) = (sa : Int) - (sb : Int) + (j : Int) - (F.length : Int) := IntWalk.i64_in _ (by omega)
                have Hrt := hid (show (sa : Int) - (sb : Int) + (j : Int) - ((rndT (val O) : Nat) : Int) = (sa : Int) - (sb : Int) + (j : Int) - (F.length : Int) by rw [HU.out.2.2.2.2.2.2.2.1, HU.out.2.2.2.2.2.2.2.2])
                have HHl := hid hHl
                clear hc1a
                go_upto_if 100 with fail
                cases up with
                | true =>
                  go_wp2_with fail
                  (with_reducible refine (qw _).mono ?_)
                  rintro e w6 ⟨rfl, rfl⟩
                  go_wp2_with fail
                  (with_reducible refine (qp _).mono ?_)
                  rintro e w7 ⟨rfl, k7⟩
                  have HK7 := hid (HV.out.2.1.nil k7)
                  clear k7 qp
                  go_wp2_with fail
                  go_meet
                  exact ⟨K2, rfl, HU.out.2.2.2.2.2.1, by rw [HU.out.2.2.2.2.1, HU.out.2.1]; rfl, by have := HU.out.2.2.2.2.2.2.1; omega, by rw [Hrt.out], HK7.out⟩
                | false =>
                  go_wp2_with fail
                  go_meet
                  exact ⟨H, rfl, HU.out.2.2.2.1, by rw [HU.out.2.1]; rfl, by have := HHl.out; omega, by rw [Hrt.out], HV.out.2.1⟩
        case rest =>
          obtain ⟨K, rfl, dK, vK, lK, rfl, hk6⟩ := hcut
          have hval := HV.out.1
          rw [← vK] at hval
          have hrt9 : rndT (val O) ≤ 300 := by
            unfold rndT
            split
            · omega
            · rw [← HV.out.2.2.2.2.1]; omega
          obtain ⟨sc, hsc⟩ : ∃ sc : Int, sc = c1 - (rndT (val O) : Nat) := ⟨_, rfl⟩
          have hsc2 : (sa : Int) - (sb : Int) + (j : Int) - ((rndT (val O) : Nat) : Int) = sc := by rw [hsc, Hc1.out]
          rw [← hsc] at hval
          have bsc1 : -600 ≤ sc := by omega
          have bsc2 : sc ≤ 600 := by omega
          rw [hsc2]
          obtain ⟨D1, S, hD1, hS, hDl1, hd1, hsc1⟩ : ∃ (D1 : List UInt8) (S : Nat), (D1 = if sc < 0 then K ++ List.replicate (-sc).toNat 48 else K) ∧ S = (if sc < 0 then 0 else sc.toNat) ∧ D1.length ≤ 20000 ∧ Digs D1 ∧ scD (na != nb) (val K) sc = norm (na != nb) (val D1) S := by
            rcases sc_cases (na != nb) (val K) sc with ⟨h, e⟩ | ⟨h, e⟩
            · refine ⟨_, _, rfl, rfl, ?_, ?_, ?_⟩
              · rw [if_pos h, List.length_append, List.length_replicate]; omega
              · rw [if_pos h]; exact dK.append (Digs.zeros _)
              · rw [if_pos h, if_pos h, val_zeros_end]; exact e
            · refine ⟨_, _, rfl, rfl, ?_, ?_, ?_⟩
              · rw [if_neg h]; omega
              · rw [if_neg h]; exact dK
              · rw [if_neg h, if_neg h]; exact e
          have hS9 : S ≤ 10000 := by rw [hS]; split <;> omega
          rw [hsc1] at hval
          have qnm := fun W => (rnorm_any W (na != nb) D1 hd1 (by omega) S (by omega)).mono fun e w' h => (⟨by
            have h2 := h.1
            rw [← hval, resV_is] at h2
            exact h2, h.2⟩ : e = .returned (.tuple #[.agg #[.bool (oN RR), .string ⟨(oL RR).toArray⟩, .int .i64 (oS RR)], .int .i64 (oE RR)]) ∧ Kp [] W w')
          simp only [bne] at qnm
          obtain ⟨W7, hW7⟩ : ∃ W7 : World, W7 = wc := ⟨_, rfl⟩
          rw [← hW7] at hk6 ⊢
          have HK6 := hid hk6
          have HDS := hid (And.intro hD1 hS)
          obtain ⟨t7, b7⟩ : ∃ t, decide (sc < 0) = t := ⟨_, rfl⟩
          have B7 := hid b7
          clear hD1 hS hd1 hsc1 hval hsc hsc2 vK dK hk6 hW7
          go_upto_if 107 with fail
          clear b7
          go_cut [6, 8, 107] (fun v6 v8 _ wx => v6 = .string ⟨D1.toArray⟩ ∧ v8 = .int .i64 (S : Int) ∧ wx = W7)
          case first =>
            cases t7 with
            | true =>
              have hs : sc < 0 := of_decide_eq_true B7.out
              obtain ⟨n, hn⟩ : ∃ n : Nat, n = (-sc).toNat := ⟨_, rfl⟩
              have en : -sc = (n : Int) := by omega
              have hx1 := HDS.out.1
              have hx2 := HDS.out.2
              rw [if_pos hs, ← hn] at hx1
              rw [if_pos hs] at hx2
              have qr := fun W => qzeros_any W n (by omega)
              have hadd := fun W => run_add_text (P := Tryd.prog) K (List.replicate n 48) D1 hx1 (by rw [List.length_replicate]; omega) W
              obtain ⟨Z, hZ⟩ : ∃ Z : List UInt8, Z = List.replicate n 48 := ⟨_, rfl⟩
              simp only [← hZ] at qr hadd
              have hw64 : IntKind.i64.wrap (n : Int) = (n : Int) := IntWalk.i64_in _ (by omega)
              have Hx2 := hid hx2
              clear hx1 hx2 hZ hn hs
              go_wp2_with fail
              (with_reducible refine (qr _).mono ?_)
              rintro e w8 ⟨rfl, rfl⟩
              clear qr
              go_wp2_with fail
              go_meet
              exact ⟨rfl, by rw [Hx2.out]; rfl, rfl⟩
            | false =>
              have hs : ¬ sc < 0 := of_decide_eq_false B7.out
              have hx1 := HDS.out.1
              have hx2 := HDS.out.2
              rw [if_neg hs] at hx1 hx2
              have hsS : sc = (S : Int) := by omega
              have Hx1 := hid (And.intro hx1 hsS)
              clear hx1 hx2 hsS hs
              go_wp2_with fail
              go_meet
              exact ⟨by rw [Hx1.out.1], by rw [← Hx1.out.2], rfl⟩
          case rest =>
            obtain ⟨rfl, rfl, rfl⟩ := hcut
            have a0 : wc.cell? ⟨w.heap.size, 0, none⟩ = _ := (H0.out.2.1.keep HK6.out (by simp)).cell 0
            have b0 : wc.cell? ⟨w.heap.size + 1, 0, none⟩ = _ := (H0.out.2.2.1.keep HK6.out (by simp)).cell 0
            simp only [List.getElem?_cons_zero] at a0 b0
            go_wp2_with fail
            (with_reducible refine (qnm _).mono ?_)
            rintro e w9 ⟨rfl, k9⟩
            have hk9 := HK6.out.nil k9
            obtain ⟨_, _, _, c0, c1', c2, f0, f1, f2⟩ := (H0.out.2.2.2.kept hk9).cells
            have HK9 := hid (H0.out.1.nil hk9)
            clear k9 hk9 qnm a0 b0
            go_wp2_with fail
            exact bodyPost_ret (v := .tuple #[.agg #[.bool (oN RR), .string ⟨(oL RR).toArray⟩, .int .i64 (oS RR)], .int .i64 (oE RR)]) (by simp [results, Tryd.results38, go_sem, c0, c1', c2]) rfl ⟨by rw [resV_is], kp_room3 HK9.out (by omega) _ _ _⟩
    · have hgo : z0 = false ∧ decide ((dl : Int) < 35) = true := by
        have h1 : ¬ (x = 0 ∨ 10 ^ 34 ≤ val O) := fun h => hstop (hst.2 h)
        refine ⟨by rw [hz0]; exact decide_eq_false (fun h => h1 (.inl h)), decide_eq_true ?_⟩
        have := hdi.2 (Nat.lt_of_not_le (fun h => h1 (.inr h)))
        omega
      obtain ⟨rfl, b35⟩ := hgo
      have hj94 := (go_bound HA.out.2.2 HA.out.1 hstop).2
      have h48 : Dig 48 := by decide
      obtain ⟨hL2, hq9, _⟩ := hL.next h48
      rw [List.append_assoc, ← List.replicate_succ'] at hL2
      have q := fun W => Hqs.out W R 48 dR h48 (by omega) (by rw [vR]; exact hL.2.2.2)
      unfold StepPost at q
      have e48 : (48 : UInt8).toNat = 48 := rfl
      have e48i : ((48 : Nat) : Int) = 48 := rfl
      rw [vR, e48, e48i] at q
      rw [e48] at hL2 hq9
      obtain ⟨X, hX⟩ : ∃ X, X = x * 10 + (48 - 48) := ⟨_, rfl⟩
      simp only [← hX] at q hL2 hq9
      obtain ⟨qd, hqd⟩ : ∃ qd, qd = X / y := ⟨_, rfl⟩
      rw [← hqd] at hL2 hq9
      simp only [← hqd] at q
      have hxT : X % y < 10 ^ T := Nat.lt_trans hL2.2.2.2 HA.out.2.1
      have hvx : val (digN T (X % y)) = X % y := by rw [val_digN, Nat.mod_eq_of_lt hxT]
      obtain ⟨R2, hR2⟩ : ∃ R2, R2 = digN T (X % y) := ⟨_, rfl⟩
      have dR2 : Digs R2 := by rw [hR2]; exact digs_digN _ _
      have lR2 : R2.length = T := by rw [hR2]; exact length_digN _ _
      rw [← hR2] at hvx
      simp only [← hR2] at q
      have htx := fun W => one_less qd (by omega) W
      have hadd := fun W => run_add_text (P := Tryd.prog) O [dg qd] (O ++ [dg qd]) rfl (by simp; omega) W
      obtain ⟨O2, hO2⟩ : ∃ O2, O2 = O ++ [dg qd] := ⟨_, rfl⟩
      simp only [← hO2] at hadd
      rw [← hO2] at hL2
      have b1 : wr.cell? ⟨w.heap.size + 1, 1, none⟩ = _ := (H0.out.2.2.1.keep hkp (by simp)).cell 1
      simp only [List.getElem?_cons_zero, List.getElem?_cons_succ] at b1
      have HQ := hid (And.intro hL2 (And.intro dR2 (And.intro lR2 (And.intro hvx (And.intro hkp (And.intro hns hstop))))))
      clear hL2 dR2 lR2 hvx hxT hR2 hqd hX hL dR vR lR hkp hO2 hst hv hx hns hstop hdi hdl hz0 hO hdlD hf h48 e48 e48i
      go_wp2_with fail
      (with_reducible refine (qn _).mono ?_)
      rintro e w5 ⟨rfl, rfl⟩
      go_wp2_with fail
      (with_reducible refine (qf _).mono ?_)
      rintro e w5 ⟨rfl, rfl⟩
      clear qn qf
      go_wp2_with fail
      (with_reducible refine (q _).mono ?_)
      rintro e w6 ⟨rfl, k6⟩
      have HK6 := hid (HQ.out.2.2.2.2.1.nil k6)
      clear k6 q
      go_wp2_with fail
      go_roundw
      case rel => exact ⟨j + 1, X % y, O2, R2, rfl, rfl, by go_num, HK6.out.alloc _, HQ.out.1, HQ.out.2.1, HQ.out.2.2.2.1, by rw [HQ.out.2.2.1]; exact Nat.le_refl _, fun i hi => by
        rcases Nat.lt_or_ge i j with h | h
        · exact HQ.out.2.2.2.2.2.1 i h
        · rw [show i = j by omega]; exact HQ.out.2.2.2.2.2.2, by omega⟩
      case measure => simp [intOf]; omega
end Go.Proofs.YtampgimmodomoaaDoor
