/- Print: the document's answer. -/
import Derived.Test.YtpeldjihalldkaaDoorRM
import Derived.Test.YtpeldjihalldkaaDoorRF
import Derived.Test.YtpeldjihalldkaaDoorRI
import Derived.Test.YtpeldjihalldkaaDoorDRPrint
namespace Go.Proofs.YtpeldjihalldkaaDoor
open Go Go.RowKit Go.Lib

theorem rq_any (W : World) (x : Txt) (h : x.length ≤ 1000000) : Calls Tryd.prog 48 #[.string ⟨x.toArray⟩] W fun e w' => e = .returned (.string ⟨(quoteL x).toArray⟩) ∧ Kp [] W w' := by
  have e : (⟨x.toArray⟩ : ByteArray).size = x.length := by show x.toArray.size = _; simp
  have q := rquote_any W ⟨x.toArray⟩ (by rw [e]; omega)
  simpa using q
theorem sum_take (l : List Nat) (j : Nat) : (l.take j).sum ≤ l.sum := by
  conv => rhs; rw [← List.take_append_drop j l]
  rw [List.sum_append]
  omega
theorem take_len (P : List Txt) (j : Nat) : (joinC (P.take j)).length ≤ (P.map List.length).sum + P.length := by
  have h1 := joinC_len (P.take j)
  have h2 := sum_take (P.map List.length) j
  rw [← List.map_take] at h2
  rw [List.length_take] at h1
  omega
theorem joinC_snoc : ∀ (l : List Txt) (x : Txt), joinC (l ++ [x]) = if l = [] then x else joinC l ++ 44 :: x
  | [], x => by simp [joinC]
  | [y], x => by simp [joinC]
  | y :: z :: r, x => by
    have h := joinC_snoc (z :: r) x
    rw [if_neg (by simp)] at h
    rw [if_neg (by simp)]
    show y ++ 44 :: joinC ((z :: r) ++ [x]) = _
    rw [h]
    show _ = (y ++ 44 :: joinC (z :: r)) ++ 44 :: x
    simp
theorem joinC_take (P : List Txt) (j : Nat) (x : Txt) (h : P[j]? = some x) : joinC (P.take (j + 1)) = if j = 0 then x else joinC (P.take j) ++ 44 :: x := by
  have hl : j < P.length := (List.getElem?_eq_some_iff.1 h).1
  rw [List.take_add_one, h]
  show joinC (P.take j ++ [x]) = _
  rw [joinC_snoc]
  by_cases hj : j = 0
  · rw [if_pos hj, if_pos (by rw [hj]; rfl)]
  · rw [if_neg hj, if_neg (by intro h2; have h3 := congrArg List.length h2; rw [List.length_take_of_le (Nat.le_of_lt hl)] at h3; exact hj h3)]
set_option maxRecDepth 100000 in
set_option maxHeartbeats 6400000 in
theorem rprint_atom (w : World) (k m : Nat) (num : Option Dc) (t : Txt) (keys : List Txt) (kids : List Vl) (code : Nat) (hf : FineV (.mk k m num t keys kids code)) (h7 : k ≠ 7) (h6 : k ≠ 6) (A : Option Addr) (nk ck : Nat) (B : Option Addr) (nb cb : Nat) :
    Calls Tryd.prog 21 #[.agg #[.int .i64 (k : Int), .int .u64 (m : Int), .bool (vN num), .string ⟨(vD num).toArray⟩, .int .i64 (vS num), .string ⟨t.toArray⟩, .slice A nk ck, .slice B nb cb, .int .i64 (code : Int)]] w fun e w' => e = .returned (.string ⟨(atomL k num t code).toArray⟩) ∧ Kp [] w w' := by
  cases hf with
  | mk _ _ _ _ _ _ _ hk hm hn hn0 ht ht0 hkl hk0 hks hkd hc hcode hc0 hc8 hmany hf =>
    have hk0 : Kp [] w (w.alloc (.cells #[.int .i64 (k : Int), .int .u64 (m : Int), .bool (vN num), .string ⟨(vD num).toArray⟩, .int .i64 (vS num), .string ⟨t.toArray⟩, .slice A nk ck, .slice B nb cb, .int .i64 (code : Int)] 31)) := (Kp.refl _ _).alloc _
    have HK := hid hk0
    have hd2 := dec_len ⟨code, hcode⟩
    dsimp only at hd2
    clear hk0 hks hkd hkl hf hc hc0 hc8 hmany ht0 hm
    rcases (show k = 1 ∨ k = 2 ∨ k = 3 ∨ k = 4 ∨ k = 5 ∨ k = 8 by omega) with rfl | rfl | rfl | rfl | rfl | rfl
    · clear hn hn0 ht hk h7 h6
      go_enter Tryd.func21, Tryd.ntmps21
      go_wp2_with fail
      go_ret
      exact ⟨rfl, HK.out⟩
    · clear hn hn0 ht hk h7 h6
      go_enter Tryd.func21, Tryd.ntmps21
      go_wp2_with fail
      go_ret
      exact ⟨rfl, HK.out⟩
    · clear hn hn0 ht hk h7 h6
      go_enter Tryd.func21, Tryd.ntmps21
      go_wp2_with fail
      go_ret
      exact ⟨rfl, HK.out⟩
    · obtain ⟨e, rfl, ho⟩ := hn rfl
      have hdl := length_dtxt_le (k := 60) ho.1 (by decide)
      have q := fun W => rprint_any W e (by omega) (by have := ho.2.1; omega)
      have hr : atomL 4 (some e) t code = printL e := rfl
      rw [hr]
      simp only [vN, vD, vS] at HK ⊢
      clear hr hn hn0 ht hk h7 h6 ho hdl hk0
      go_enter Tryd.func21, Tryd.ntmps21
      go_wp2_with fail
      (with_reducible refine (q _).mono ?_)
      rintro e' w2 ⟨rfl, k2⟩
      have HK2 := hid (HK.out.nil k2)
      clear k2 q
      go_wp2_with fail
      go_ret
      exact ⟨rfl, HK2.out⟩
    · have q := fun W => rq_any W t (by have := ht.1; omega)
      have hr : atomL 5 num t code = quoteL t := rfl
      rw [hr]
      clear hr hn hn0 ht hk h7 h6 hk0
      obtain ⟨Y, hY⟩ : ∃ Y, Y = quoteL t := ⟨_, rfl⟩
      simp only [← hY] at q ⊢
      clear hY
      go_enter Tryd.func21, Tryd.ntmps21
      go_wp2_with fail
      (with_reducible refine (q _).mono ?_)
      rintro e' w2 ⟨rfl, k2⟩
      have HK2 := hid (HK.out.nil k2)
      clear k2 q
      go_wp2_with fail
      go_ret
      exact ⟨rfl, HK2.out⟩
    · have q := fun W => Tryd.strconv_Itoa_small code hcode W
      have hr : atomL 8 num t code = 33 :: Go.Lib.decDigits code := rfl
      rw [hr]
      have A1 := fun W => run_add_text (P := Tryd.prog) [33] (Go.Lib.decDigits code) (33 :: Go.Lib.decDigits code) rfl (by simp; omega) W
      clear hr hn hn0 ht hk h7 h6 hk0
      obtain ⟨Y, hY⟩ : ∃ Y, Y = Go.Lib.decDigits code := ⟨_, rfl⟩
      simp only [← hY] at q A1 ⊢
      clear hY
      go_enter Tryd.func21, Tryd.ntmps21
      go_wp2_with fail
      (with_reducible refine (q _).mono ?_)
      rintro e' w2 ⟨rfl, hw⟩
      subst hw
      go_wp2_with fail
      go_ret
      exact ⟨rfl, HK.out⟩
/-- What the document's Print does for a tree at any later world. -/
def PrintAt (w : World) (v : Vl) (cs : List Value) : Prop :=
  FineV v → sizeV v ≤ 1000000 → ∀ W, Kp [] w W → Calls Tryd.prog 21 #[.agg cs.toArray] W fun e w' => e = .returned (.string ⟨(showL 18446744073709551615 [] v).toArray⟩) ∧ Kp [] W w'
set_option maxRecDepth 100000 in
set_option maxHeartbeats 12800000 in
theorem printr_step (w : World) (k m : Nat) (num : Option Dc) (t : Txt) (keys : List Txt) (kids : List Vl) (code : Nat) (A : Option Addr) (ck : Nat) (B : Option Addr) (cb : Nat) (ks : Nat → List Value)
    (hA : KeysAt w A ck keys) (hB : KidsAt w B cb kids.length ks) (hr : ∀ (i : Nat) v, kids[i]? = some v → Rep w v (ks i)) (ih : ∀ (i : Nat) v, kids[i]? = some v → PrintAt w v (ks i)) :
    PrintAt w (.mk k m num t keys kids code) (vC k m (vN num) (vD num) (vS num) t A keys.length ck B kids.length cb code) := by
  intro hf hsz W hK
  have hA := hA.kept hK
  have hB := hB.kept hK
  have hkl := kids_len 18446744073709551615 [] (by simp) kids (fine_kids hf)
  have hko := kidso_len 18446744073709551615 [] (by simp) keys kids (fine_kids hf)
  have HF := hid hf
  have hsum : sizes kids ≤ 1000000 := by unfold sizeV at hsz; omega
  cases hf with
  | mk _ _ _ _ _ _ _ hk hm hn hn0 ht ht0 hkey hk0 hks hkd hc hcode hc0 hc8 hmany hff =>
    have hq : ∀ (i : Nat) v, kids[i]? = some v → ∀ W2, Kp [] W W2 → Calls Tryd.prog 21 #[.agg (ks i).toArray] W2 fun e w' => e = .returned (.string ⟨(showL 18446744073709551615 [] v).toArray⟩) ∧ Kp [] W2 w' := by
      intro i v hv W2 k2
      have h := ih i v hv
      unfold PrintAt at h
      exact h (fine_kid HF.out v (at_mem hv)) (by have := size_at kids i v hv; omega) W2 (hK.nil k2)
    have hrv : ∀ (i : Nat) v, kids[i]? = some v → Rep W v (ks i) := fun i v hv => (hr i v hv).kept hK
    have hka := hA.le
    have hka2 := hA.top
    have hkb := hB.le
    have hkb2 := hB.top
    have hko := hko (fun x hx => (hks x hx).1)
    obtain ⟨nk, hnk⟩ : ∃ x, x = keys.length := ⟨_, rfl⟩
    obtain ⟨nb, hnb⟩ : ∃ x, x = kids.length := ⟨_, rfl⟩
    unfold vC
    simp only [← hnk, ← hnb] at hkey hka hkb hmany ⊢
    obtain ⟨W1, hW1⟩ : ∃ W1, W1 = W.alloc (.cells #[.int .i64 (k : Int), .int .u64 (m : Int), .bool (vN num), .string ⟨(vD num).toArray⟩, .int .i64 (vS num), .string ⟨t.toArray⟩, .slice A nk ck, .slice B nb cb, .int .i64 (code : Int)] 31) := ⟨_, rfl⟩
    have hk1 : Kp [] W W1 := by rw [hW1]; exact (Kp.refl _ _).alloc _
    have hca : Cells W1 W.heap.size 31 [.int .i64 (k : Int), .int .u64 (m : Int), .bool (vN num), .string ⟨(vD num).toArray⟩, .int .i64 (vS num), .string ⟨t.toArray⟩, .slice A nk ck, .slice B nb cb, .int .i64 (code : Int)] := by rw [hW1]; exact Cells.fresh W 31 _
    have HH := hid (And.intro hk1 hca)
    have HW1 := hid hW1
    have HN := hid (And.intro hnk hnb)
    clear ht0 hc0 hc8 hn0 hr ih hnk hnb hk1 hca hW1 hc hcode hkd hk0
    have hhid : hidB m 18446744073709551615 = false := hid_all hm
    rcases (show k = 7 ∨ k = 6 ∨ (k ≠ 7 ∧ k ≠ 6) by omega) with rfl | rfl | ⟨h7, h6⟩
    · simp only [Int.cast_ofNat_Int] at HW1 HH ⊢
      have hres : showL 18446744073709551615 [] (.mk 7 m num t keys kids code) = 123 :: (joinC (kidsO 18446744073709551615 [] keys kids) ++ [125]) := by
        unfold showL
        rw [if_neg (by rw [hhid]; simp), if_pos rfl]
      rw [hres]
      obtain ⟨P, hP⟩ : ∃ P, P = kidsO 18446744073709551615 [] keys kids := ⟨_, rfl⟩
      have hPl : P.length = nb := by rw [hP, kidsO_len, HN.out.2]
      have hsum2 : (P.map List.length).sum ≤ 7000006030 := by
        rw [hP]
        rw [← HN.out.2] at hko
        omega
      have HP := hid hP
      have HPL := hid (And.intro hPl hsum2)
      rw [← hP]
      have HR := hid (And.intro hA (And.intro hB (And.intro hrv (And.intro hq (And.intro hff hks)))))
      have HKL := hid (hkey rfl)
      clear hres hA hB hrv hq hff hks hkey hP hPl hsum2 hkl hko hhid hn
      go_enter Tryd.func21, Tryd.ntmps21
      go_wp2_with fail
      rw [← HW1.out]
      obtain ⟨WL, hWL⟩ : ∃ WL : World, WL = W1 := ⟨_, rfl⟩
      subst hWL
      go_loopw [3, 4] (fun v i wr => ∃ j : Nat, j ≤ nb ∧ i = .int .i64 (j : Int) ∧ v = .string ⟨(123 :: joinC (P.take j)).toArray⟩ ∧ Kp [] WL wr) (fun _ i _ => nb - (RowKit.intOf i).toNat)
      case atStart => exact ⟨0, Nat.zero_le _, rfl, rfl, Kp.refl _ _⟩
      case round =>
        obtain ⟨j, hj, rfl, rfl, hkp⟩ := hrel
        have hca := HH.out.2.keep hkp (by simp)
        have x0 := hca.cell 0
        have x6 := hca.cell 6
        have x7 := hca.cell 7
        simp only [List.getElem?_cons_zero, List.getElem?_cons_succ] at x0 x6 x7
        have hXb := take_len P j
        have hpp := HPL.out
        obtain ⟨X, hX⟩ : ∃ X, X = 123 :: joinC (P.take j) := ⟨_, rfl⟩
        rw [← hX]
        have hXl : X.length ≤ 8000000000 := by rw [hX, List.length_cons]; omega
        clear hXb hpp
        by_cases hlt : j < nb
        · obtain ⟨v, hv⟩ : ∃ v, kids[j]? = some v := ⟨_, List.getElem?_eq_getElem (by rw [← HN.out.2]; exact hlt)⟩
          obtain ⟨x, hx⟩ : ∃ x, keys[j]? = some x := ⟨_, List.getElem?_eq_getElem (by rw [← HN.out.1, HKL.out]; exact hlt)⟩
          have hkr : Kp [] W wr := HH.out.1.nil hkp
          obtain ⟨ga, rfl, a1⟩ := (HR.out.1.kept hkr).at_ j x hx
          obtain ⟨gb, rfl, b1⟩ := (HR.out.2.1.kept hkr).at_ j (by rw [← HN.out.2] at *; exact hlt)
          have hfv := HR.out.2.2.2.2.1 j v hv
          have hxs := HR.out.2.2.2.2.2 x (List.mem_of_getElem? hx)
          have hsv := size_at kids j v hv
          have qs := fun W' (k' : Kp [] wr W') => HR.out.2.2.2.1 j v hv W' (hkr.nil k')
          have hsl := show_len 18446744073709551615 [] (by simp) v hfv
          have hPj : P[j]? = some (quoteL x ++ 58 :: showL 18446744073709551615 [] v) := by rw [HP.out]; exact kidsO_at 18446744073709551615 [] keys kids j x v hx hv
          have hst := joinC_take P j _ hPj
          obtain ⟨S, hS⟩ : ∃ S, S = showL 18446744073709551615 [] v := ⟨_, rfl⟩
          rw [← hS] at hst hsl
          simp only [← hS] at qs
          have hsl9 : S.length ≤ 7000000000 := by omega
          obtain ⟨ak, am, an, ad, az, ax, aA, ank, ack, aB, anb, acb, aco, e1⟩ := (HR.out.2.2.1 j v hv).isV
          rw [e1] at b1 qs
          have c0 := b1 0 _ rfl
          have c1 := b1 1 _ rfl
          have c2 := b1 2 _ rfl
          have c3 := b1 3 _ rfl
          have c4 := b1 4 _ rfl
          have c5 := b1 5 _ rfl
          have c6 := b1 6 _ rfl
          have c7 := b1 7 _ rfl
          have c8 := b1 8 _ rfl
          simp only [Nat.add_zero] at c0
          have e9 : j * 9 = 9 * j := Nat.mul_comm _ _
          have q3 := fun W' => rq_any W' x (by have := hxs.1; omega)
          have hql := quote_len x
          have hxl := hxs.1
          obtain ⟨Q, hQ⟩ : ∃ Q, Q = quoteL x := ⟨_, rfl⟩
          rw [← hQ] at hql hst
          simp only [← hQ] at q3
          have hQ9 : Q.length ≤ 700 := by omega
          have Hst := hid hst
          have HX := hid hX
          have HK := hid hkp
          have jn : (j : Int) < (nb : Int) := by omega
          have jk : j < nk := by rw [HKL.out]; exact hlt
          have jki : (j : Int) < (nk : Int) := by omega
          clear hPj hst hsl hS hfv hv hsv b1 e1 hkr hX hkp hca hx hxs hQ hql hxl
          by_cases hj0 : j = 0
          · have zj : decide ((0 : Int) < (j : Int)) = false := decide_eq_false (by omega)
            have zjn : decide (0 < j) = false := decide_eq_false (by omega)
            have HJ := hid hj0
            clear hj0
            obtain ⟨Y1, hY1⟩ : ∃ Y, Y = X ++ Q := ⟨_, rfl⟩
            have hY1l : Y1.length ≤ 8000001000 := by rw [hY1, List.length_append]; omega
            have A2 := fun W' => run_add_text (P := Tryd.prog) X Q Y1 hY1 (by omega) W'
            obtain ⟨Y2, hY2⟩ : ∃ Y, Y = Y1 ++ [58] := ⟨_, rfl⟩
            have hY2l : Y2.length ≤ 8000001001 := by rw [hY2, List.length_append, List.length_singleton]; omega
            have A3 := fun W' => run_add_text (P := Tryd.prog) Y1 [58] Y2 hY2 (by simp; omega) W'
            obtain ⟨Y, hY⟩ : ∃ Y, Y = Y2 ++ S := ⟨_, rfl⟩
            have A4 := fun W' => run_add_text (P := Tryd.prog) Y2 S Y hY (by omega) W'
            have HY : Hid (Y = 123 :: joinC (P.take (j + 1))) := hid (by rw [Hst.out, hY, hY2, hY1, HX.out, if_pos HJ.out, HJ.out, List.take_zero]; simp [joinC])
            clear hY hY1 hY2
            go_wp2_with fail
            (with_reducible refine (q3 _).mono ?_)
            rintro e w3 ⟨rfl, k3⟩
            have c0 := k3.cell c0 (by simp)
            have c1 := k3.cell c1 (by simp)
            have c2 := k3.cell c2 (by simp)
            have c3 := k3.cell c3 (by simp)
            have c4 := k3.cell c4 (by simp)
            have c5 := k3.cell c5 (by simp)
            have c6 := k3.cell c6 (by simp)
            have c7 := k3.cell c7 (by simp)
            have c8 := k3.cell c8 (by simp)
            have x0 := k3.cell x0 (by simp)
            have x6 := k3.cell x6 (by simp)
            have x7 := k3.cell x7 (by simp)
            have q2 := qs _ k3
            have HK3 := hid k3
            clear k3 q3 a1 qs
            go_wp2_with fail
            (with_reducible refine q2.mono ?_)
            rintro e w4 ⟨rfl, k4⟩
            have HK4 := hid (HK3.out.nil k4)
            clear k4 q2 c0 c1 c2 c3 c4 c5 c6 c7 c8 x0 x6 x7
            go_wp2_with fail
            go_roundw
            case rel => exact ⟨j + 1, by omega, by go_num, by rw [HY.out], HK.out.nil HK4.out⟩
            case measure => simp [RowKit.intOf]; omega
          · have zj : decide ((0 : Int) < (j : Int)) = true := decide_eq_true (by omega)
            have zjn : decide (0 < j) = true := decide_eq_true (by omega)
            have HJ := hid hj0
            clear hj0
            obtain ⟨Xc, hXc⟩ : ∃ Xc, Xc = X ++ [44] := ⟨_, rfl⟩
            have hXcl : Xc.length ≤ 8000000001 := by rw [hXc]; simp; omega
            have A1 := fun W' => run_add_text (P := Tryd.prog) X [44] Xc hXc (by simp; omega) W'
            have HXc := hid hXc
            clear hXc
            obtain ⟨Y1, hY1⟩ : ∃ Y, Y = Xc ++ Q := ⟨_, rfl⟩
            have hY1l : Y1.length ≤ 8000001000 := by rw [hY1, List.length_append]; omega
            have A2 := fun W' => run_add_text (P := Tryd.prog) Xc Q Y1 hY1 (by omega) W'
            obtain ⟨Y2, hY2⟩ : ∃ Y, Y = Y1 ++ [58] := ⟨_, rfl⟩
            have hY2l : Y2.length ≤ 8000001001 := by rw [hY2, List.length_append, List.length_singleton]; omega
            have A3 := fun W' => run_add_text (P := Tryd.prog) Y1 [58] Y2 hY2 (by simp; omega) W'
            obtain ⟨Y, hY⟩ : ∃ Y, Y = Y2 ++ S := ⟨_, rfl⟩
            have A4 := fun W' => run_add_text (P := Tryd.prog) Y2 S Y hY (by omega) W'
            have HY : Hid (Y = 123 :: joinC (P.take (j + 1))) := hid (by rw [Hst.out, hY, hY2, hY1, HXc.out, HX.out, if_neg HJ.out]; simp)
            clear hY hY1 hY2
            go_wp2_with fail
            (with_reducible refine (q3 _).mono ?_)
            rintro e w3 ⟨rfl, k3⟩
            have c0 := k3.cell c0 (by simp)
            have c1 := k3.cell c1 (by simp)
            have c2 := k3.cell c2 (by simp)
            have c3 := k3.cell c3 (by simp)
            have c4 := k3.cell c4 (by simp)
            have c5 := k3.cell c5 (by simp)
            have c6 := k3.cell c6 (by simp)
            have c7 := k3.cell c7 (by simp)
            have c8 := k3.cell c8 (by simp)
            have x0 := k3.cell x0 (by simp)
            have x6 := k3.cell x6 (by simp)
            have x7 := k3.cell x7 (by simp)
            have q2 := qs _ k3
            have HK3 := hid k3
            clear k3 q3 a1 qs
            go_wp2_with fail
            (with_reducible refine q2.mono ?_)
            rintro e w4 ⟨rfl, k4⟩
            have HK4 := hid (HK3.out.nil k4)
            clear k4 q2 c0 c1 c2 c3 c4 c5 c6 c7 c8 x0 x6 x7
            go_wp2_with fail
            go_roundw
            case rel => exact ⟨j + 1, by omega, by go_num, by rw [HY.out], HK.out.nil HK4.out⟩
            case measure => simp [RowKit.intOf]; omega
        · have hjn : j = nb := by omega
          have htk : P.take j = P := List.take_of_length_le (by rw [HPL.out.1, hjn]; exact Nat.le_refl _)
          rw [htk] at hX
          have z1 : decide ((j : Int) < (nb : Int)) = false := decide_eq_false (by omega)
          have z1n : decide (j < nb) = false := decide_eq_false hlt
          obtain ⟨Y, hY⟩ : ∃ Y, Y = X ++ [125] := ⟨_, rfl⟩
          have A1 := fun W' => run_add_text (P := Tryd.prog) X [125] Y hY (by simp; omega) W'
          have HY : Hid (123 :: (joinC P ++ [125]) = Y) := hid (by rw [hY, hX]; simp)
          have HKE := hid (HH.out.1.nil hkp)
          clear hY hX htk hjn hkp hca hlt
          go_wp2_with fail
          go_ret
          exact ⟨by rw [HY.out]; rfl, HKE.out⟩
    · simp only [Int.cast_ofNat_Int] at HW1 HH ⊢
      have hres : showL 18446744073709551615 [] (.mk 6 m num t keys kids code) = 91 :: (joinC (kidsL 18446744073709551615 [] kids) ++ [93]) := by
        unfold showL
        rw [if_neg (by rw [hhid]; simp), if_neg (by decide), if_pos rfl]
      rw [hres]
      obtain ⟨P, hP⟩ : ∃ P, P = kidsL 18446744073709551615 [] kids := ⟨_, rfl⟩
      have hPl : P.length = nb := by rw [hP, kidsL_len, HN.out.2]
      have hsum2 : (P.map List.length).sum ≤ 7000006030 := by
        rw [hP]
        omega
      have HP := hid hP
      have HPL := hid (And.intro hPl hsum2)
      rw [← hP]
      have HR := hid (And.intro hA (And.intro hB (And.intro hrv (And.intro hq (And.intro hff hks)))))
      clear hres hA hB hrv hq hff hks hkey hP hPl hsum2 hkl hko hhid hn
      go_enter Tryd.func21, Tryd.ntmps21
      go_wp2_with fail
      rw [← HW1.out]
      obtain ⟨WL, hWL⟩ : ∃ WL : World, WL = W1 := ⟨_, rfl⟩
      subst hWL
      go_loopw [3, 4] (fun v i wr => ∃ j : Nat, j ≤ nb ∧ i = .int .i64 (j : Int) ∧ v = .string ⟨(91 :: joinC (P.take j)).toArray⟩ ∧ Kp [] WL wr) (fun _ i _ => nb - (RowKit.intOf i).toNat)
      case atStart => exact ⟨0, Nat.zero_le _, rfl, rfl, Kp.refl _ _⟩
      case round =>
        obtain ⟨j, hj, rfl, rfl, hkp⟩ := hrel
        have hca := HH.out.2.keep hkp (by simp)
        have x0 := hca.cell 0
        have x6 := hca.cell 6
        have x7 := hca.cell 7
        simp only [List.getElem?_cons_zero, List.getElem?_cons_succ] at x0 x6 x7
        have hXb := take_len P j
        have hpp := HPL.out
        obtain ⟨X, hX⟩ : ∃ X, X = 91 :: joinC (P.take j) := ⟨_, rfl⟩
        rw [← hX]
        have hXl : X.length ≤ 8000000000 := by rw [hX, List.length_cons]; omega
        clear hXb hpp
        by_cases hlt : j < nb
        · obtain ⟨v, hv⟩ : ∃ v, kids[j]? = some v := ⟨_, List.getElem?_eq_getElem (by rw [← HN.out.2]; exact hlt)⟩
          have hkr : Kp [] W wr := HH.out.1.nil hkp
          obtain ⟨gb, rfl, b1⟩ := (HR.out.2.1.kept hkr).at_ j (by rw [← HN.out.2] at *; exact hlt)
          have hfv := HR.out.2.2.2.2.1 j v hv
          have hsv := size_at kids j v hv
          have qs := fun W' (k' : Kp [] wr W') => HR.out.2.2.2.1 j v hv W' (hkr.nil k')
          have hsl := show_len 18446744073709551615 [] (by simp) v hfv
          have hPj : P[j]? = some (showL 18446744073709551615 [] v) := by rw [HP.out, kidsL_at, hv]; rfl
          have hst := joinC_take P j _ hPj
          obtain ⟨S, hS⟩ : ∃ S, S = showL 18446744073709551615 [] v := ⟨_, rfl⟩
          rw [← hS] at hst hsl
          simp only [← hS] at qs
          have hsl9 : S.length ≤ 7000000000 := by omega
          obtain ⟨ak, am, an, ad, az, ax, aA, ank, ack, aB, anb, acb, aco, e1⟩ := (HR.out.2.2.1 j v hv).isV
          rw [e1] at b1 qs
          have c0 := b1 0 _ rfl
          have c1 := b1 1 _ rfl
          have c2 := b1 2 _ rfl
          have c3 := b1 3 _ rfl
          have c4 := b1 4 _ rfl
          have c5 := b1 5 _ rfl
          have c6 := b1 6 _ rfl
          have c7 := b1 7 _ rfl
          have c8 := b1 8 _ rfl
          simp only [Nat.add_zero] at c0
          have e9 : j * 9 = 9 * j := Nat.mul_comm _ _
          have Hst := hid hst
          have HX := hid hX
          have HK := hid hkp
          have jn : (j : Int) < (nb : Int) := by omega
          clear hPj hst hsl hS hfv hv hsv b1 e1 hkr hX hkp hca
          by_cases hj0 : j = 0
          · have zj : decide ((0 : Int) < (j : Int)) = false := decide_eq_false (by omega)
            have zjn : decide (0 < j) = false := decide_eq_false (by omega)
            have HJ := hid hj0
            clear hj0
            obtain ⟨Y, hY⟩ : ∃ Y, Y = X ++ S := ⟨_, rfl⟩
            have A4 := fun W' => run_add_text (P := Tryd.prog) X S Y hY (by omega) W'
            have HY : Hid (Y = 91 :: joinC (P.take (j + 1))) := hid (by rw [Hst.out, hY, HX.out, if_pos HJ.out, HJ.out, List.take_zero]; simp [joinC])
            clear hY
            go_wp2_with fail
            have q2 := qs _ (Kp.refl _ _)
            have HK3 : Hid (Kp [] wr wr) := hid (Kp.refl _ _)
            clear qs
            (with_reducible refine q2.mono ?_)
            rintro e w4 ⟨rfl, k4⟩
            have HK4 := hid (HK3.out.nil k4)
            clear k4 q2 c0 c1 c2 c3 c4 c5 c6 c7 c8 x0 x6 x7
            go_wp2_with fail
            go_roundw
            case rel => exact ⟨j + 1, by omega, by go_num, by rw [HY.out], HK.out.nil HK4.out⟩
            case measure => simp [RowKit.intOf]; omega
          · have zj : decide ((0 : Int) < (j : Int)) = true := decide_eq_true (by omega)
            have zjn : decide (0 < j) = true := decide_eq_true (by omega)
            have HJ := hid hj0
            clear hj0
            obtain ⟨Xc, hXc⟩ : ∃ Xc, Xc = X ++ [44] := ⟨_, rfl⟩
            have hXcl : Xc.length ≤ 8000000001 := by rw [hXc]; simp; omega
            have A1 := fun W' => run_add_text (P := Tryd.prog) X [44] Xc hXc (by simp; omega) W'
            have HXc := hid hXc
            clear hXc
            obtain ⟨Y, hY⟩ : ∃ Y, Y = Xc ++ S := ⟨_, rfl⟩
            have A4 := fun W' => run_add_text (P := Tryd.prog) Xc S Y hY (by omega) W'
            have HY : Hid (Y = 91 :: joinC (P.take (j + 1))) := hid (by rw [Hst.out, hY, HXc.out, HX.out, if_neg HJ.out]; simp)
            clear hY
            go_wp2_with fail
            have q2 := qs _ (Kp.refl _ _)
            have HK3 : Hid (Kp [] wr wr) := hid (Kp.refl _ _)
            clear qs
            (with_reducible refine q2.mono ?_)
            rintro e w4 ⟨rfl, k4⟩
            have HK4 := hid (HK3.out.nil k4)
            clear k4 q2 c0 c1 c2 c3 c4 c5 c6 c7 c8 x0 x6 x7
            go_wp2_with fail
            go_roundw
            case rel => exact ⟨j + 1, by omega, by go_num, by rw [HY.out], HK.out.nil HK4.out⟩
            case measure => simp [RowKit.intOf]; omega
        · have hjn : j = nb := by omega
          have htk : P.take j = P := List.take_of_length_le (by rw [HPL.out.1, hjn]; exact Nat.le_refl _)
          rw [htk] at hX
          have z1 : decide ((j : Int) < (nb : Int)) = false := decide_eq_false (by omega)
          have z1n : decide (j < nb) = false := decide_eq_false hlt
          obtain ⟨Y, hY⟩ : ∃ Y, Y = X ++ [93] := ⟨_, rfl⟩
          have A1 := fun W' => run_add_text (P := Tryd.prog) X [93] Y hY (by simp; omega) W'
          have HY : Hid (91 :: (joinC P ++ [93]) = Y) := hid (by rw [hY, hX]; simp)
          have HKE := hid (HH.out.1.nil hkp)
          clear hY hX htk hjn hkp hca hlt
          go_wp2_with fail
          go_ret
          exact ⟨by rw [HY.out]; rfl, HKE.out⟩
    · have hres : showL 18446744073709551615 [] (.mk k m num t keys kids code) = atomL k num t code := by
        unfold showL
        rw [if_neg (by rw [hhid]; simp), if_neg h7, if_neg h6]
      rw [hres]
      exact rprint_atom W k m num t keys kids code HF.out h7 h6 A nk ck B nb cb
theorem printr_any {w : World} {v : Vl} {cs : List Value} (h : Rep w v cs) : PrintAt w v cs := by
  induction h with
  | mk k m num t keys kids code A ck B cb ks hA hB hr ih => exact printr_step w k m num t keys kids code A ck B cb ks hA hB hr ih
end Go.Proofs.YtpeldjihalldkaaDoor
