/- LexJoins, walked: two texts with a blank between are read as the tokens of both. -/
import Derived.Test.YtgjffkblhhkjmaaDoorLAppend
import Derived.BigQuiet
namespace Go.Proofs.YtgjffkblhhkjmaaDoor
open Go Go.RowKit Go.Lib

def firstN (n : Nat) (L : Txt) : Txt := if n < L.length then L.take n else L
theorem firstN_len (n : Nat) (L : Txt) : (firstN n L).length ≤ n := by
  unfold firstN
  split
  · rw [List.length_take]; omega
  · omega
theorem all_ok {S : Txt} {l : List Tk} (h : allL S = (0, l)) : lexGo (S.length + 1) S 0 = some l ∧ l.length ≤ 600 := by
  unfold allL at h
  split at h
  · cases h
  · cases hl : lexGo (S.length + 1) S 0 with
    | none => rw [hl] at h; cases h
    | some m =>
      rw [hl] at h
      dsimp only at h
      split at h
      · cases h
      · injection h with _ h
        subst h
        exact ⟨rfl, by omega⟩
theorem join_all {X Y : Txt} {a b : List Tk} (hX : X.length ≤ 500) (hY : Y.length ≤ 500) (ha : allL X = (0, a)) (hb : allL Y = (0, b)) :
    allL (X ++ 32 :: Y) = if 600 < a.length + b.length then (3, []) else (0, a ++ b.map (shiftT (X.length + 1))) := by
  obtain ⟨h1, _⟩ := all_ok ha
  obtain ⟨h2, _⟩ := all_ok hb
  have hj := lex_join (b := 32) (by decide) (X.length + 1) ((X ++ 32 :: Y).length + 1) X Y 0 a h1 (by simp; omega)
  have hs := lexGo_shift ((X ++ 32 :: Y).length + 1) Y (X.length + 1) 0
  rw [lexGo_fuel ((X ++ 32 :: Y).length + 1) (Y.length + 1) Y 0 (by simp; omega) (by omega), h2] at hs
  rw [Nat.add_zero] at hs
  rw [Nat.zero_add, hs] at hj
  rw [all_some (by simp; omega) hj, List.length_append, List.length_map]
theorem join_same (k : Nat) (a b : List Tk) : SameT (a ++ b.map (shiftT k)) (a ++ b) := by
  unfold SameT
  rw [List.map_append, List.map_append, List.map_map]
  rfl
theorem toks_app (a b : List Tk) : toksC (a ++ b) = toksC a ++ toksC b := by unfold toksC; rw [List.flatMap_append]
theorem toks_len (l : List Tk) : (toksC l).length = l.length * 6 := by
  induction l with
  | nil => rfl
  | cons t r ih =>
    show (tkC t ++ toksC r).length = _
    have hl : (tkC t).length = 6 := rfl
    rw [List.length_append, ih, hl, List.length_cons, Nat.add_mul, Nat.add_comm]
theorem toks_one (l : List Tk) : ∀ u ∈ toksC l, u.oneCell' = true := by
  intro u hu
  obtain ⟨t, _, h⟩ := List.mem_flatMap.1 hu
  exact tok_one _ _ _ _ _ _ u h
set_option maxRecDepth 100000 in
set_option maxHeartbeats 12800000 in
theorem ljoins_any (w : World) (hT : Tabs w) (s t : Txt) (hs : s.length ≤ 9223372036854775807) (ht : t.length ≤ 9223372036854775807) :
    Calls Tryd.prog 8 #[.string ⟨s.toArray⟩, .string ⟨t.toArray⟩] w fun e w' => e = .returned (.bool true) ∧ Kp [] w w' := by
  have qh := shown10_any w hT
  have HT := hid hT
  have hX9 := firstN_len 500 s
  have hY9 := firstN_len 500 t
  have hsz : (⟨s.toArray⟩ : ByteArray).size = s.length := size_mk _
  have htz : (⟨t.toArray⟩ : ByteArray).size = t.length := size_mk _
  have hes := extract_mk s 0 500
  have het := extract_mk t 0 500
  rw [List.drop_zero] at hes het
  obtain ⟨X, hX⟩ : ∃ S, S = firstN 500 s := ⟨_, rfl⟩
  obtain ⟨Y, hY⟩ : ∃ S, S = firstN 500 t := ⟨_, rfl⟩
  rw [← hX] at hX9
  rw [← hY] at hY9
  have HX := hid hX
  have HY := hid hY
  have qa := fun W (k : Kp [] w W) => all_any W X (by omega) (HT.out.kept k)
  have qb := fun W (k : Kp [] w W) => all_any W Y (by omega) (HT.out.kept k)
  have qc := fun W (k : Kp [] w W) => all_any W (X ++ 32 :: Y) (by simp; omega) (HT.out.kept k)
  have A1 := fun W => run_add_text (P := Tryd.prog) X [32] (X ++ [32]) rfl (by simp; omega) W
  have A2 := fun W => run_add_text (P := Tryd.prog) (X ++ [32]) Y (X ++ 32 :: Y) (by simp) (by simp; omega) W
  obtain ⟨X1, e1⟩ : ∃ x, x = X ++ [32] := ⟨_, rfl⟩
  rw [← e1] at A1 A2
  obtain ⟨Z, hZ⟩ : ∃ x, x = X ++ 32 :: Y := ⟨_, rfl⟩
  simp only [← hZ] at A2 qc
  have hXz : (⟨X.toArray⟩ : ByteArray).size = X.length := size_mk _
  have HZ := hid hZ
  have HQ := hid (And.intro qa (And.intro qb qc))
  clear hT hX hY hZ e1 qa qb qc
  go_enter Tryd.func8, Tryd.ntmps8
  go_wp2_with fail
  refine qh.mono ?_
  rintro e w1 ⟨rfl, k1⟩
  have HK := hid k1
  clear k1 qh
  go_upto_if 17 with fail
  go_cut [0, 17] (fun v _ wx => v = .string ⟨X.toArray⟩ ∧ wx = w1)
  case first => as_aux_lemma =>
    by_cases h : 500 < s.length
    · have Hr := hid (show X = s.take 500 by rw [HX.out]; unfold firstN; rw [if_pos h])
      go_wp2_with fail
      go_meet
      exact ⟨by rw [Hr.out], rfl⟩
    · have Hr := hid (show X = s by rw [HX.out]; unfold firstN; rw [if_neg h])
      go_wp2_with fail
      go_meet
      exact ⟨by rw [Hr.out], rfl⟩
  case rest =>
    obtain ⟨rfl, hw⟩ := hcut
    have hw := hw.symm
    subst hw
    clear hes hsz hs
    go_upto_if 22 with fail
    go_cut [1, 22] (fun v _ wx => v = .string ⟨Y.toArray⟩ ∧ wx = w1)
    case first => as_aux_lemma =>
      by_cases h : 500 < t.length
      · have Hr := hid (show Y = t.take 500 by rw [HY.out]; unfold firstN; rw [if_pos h])
        go_wp2_with fail
        go_meet
        exact ⟨by rw [Hr.out], rfl⟩
      · have Hr := hid (show Y = t by rw [HY.out]; unfold firstN; rw [if_neg h])
        go_wp2_with fail
        go_meet
        exact ⟨by rw [Hr.out], rfl⟩
    case rest =>
      obtain ⟨rfl, hw⟩ := hcut
      have hw := hw.symm
      subst hw
      clear het htz ht
      have q1 := HQ.out.1 w1 HK.out
      go_wp2_with fail
      (with_reducible refine q1.mono ?_)
      rintro e w2 ⟨v, rfl, ho, k2⟩
      obtain ⟨A, ca, rfl, hRa⟩ := TkRow.of ho
      have HRa := hid hRa
      have HK2 := hid (HK.out.nil k2)
      have q2 := HQ.out.2.1 w2 HK2.out
      clear ho hRa k2 q1
      go_wp2_with fail
      (with_reducible refine q2.mono ?_)
      rintro e w3 ⟨v, rfl, ho, k3⟩
      obtain ⟨B, cb, rfl, hRb⟩ := TkRow.of ho
      have HRb := hid hRb
      have HRa3 := hid (HRa.out.kept k3)
      have HK3 := hid (HK2.out.nil k3)
      have q3 := HQ.out.2.2 w3 HK3.out
      clear ho hRb k3 q2
      go_wp2_with fail
      (with_reducible refine q3.mono ?_)
      rintro e w4 ⟨v, rfl, ho, k4⟩
      obtain ⟨C, cc, rfl, hRc⟩ := TkRow.of ho
      have HRc := hid hRc
      have HRa4 := hid (HRa3.out.kept k4)
      have HRb4 := hid (HRb.out.kept k4)
      have HK4 := hid (HK3.out.nil k4)
      clear ho hRc k4 q3
      by_cases ha : (allL X).1 = 0
      · by_cases hb : (allL Y).1 = 0
        · obtain ⟨a, ha2⟩ : ∃ a, allL X = (0, a) := ⟨(allL X).2, by rw [← ha]⟩
          obtain ⟨b, hb2⟩ : ∃ b, allL Y = (0, b) := ⟨(allL Y).2, by rw [← hb]⟩
          have hj := join_all hX9 hY9 ha2 hb2
          have HPb := hid (places_at (all_places hb2).1)
          have ha6 := (all_ok ha2).2
          have hb6 := (all_ok hb2).2
          rw [← HZ.out] at hj
          rw [ha2] at HRa4 ⊢
          rw [hb2] at HRb4 ⊢
          clear ha hb ha2 hb2
          dsimp only at HRa4 HRb4 ⊢
          obtain ⟨na, hna⟩ : ∃ n, n = a.length := ⟨_, rfl⟩
          obtain ⟨nb, hnb⟩ : ∃ n, n = b.length := ⟨_, rfl⟩
          have hca := HRa4.out.le
          have hcb := HRb4.out.le
          have hcc := HRc.out.le
          have hca2 := HRa4.out.top
          have hcb2 := HRb4.out.top
          have hcc2 := HRc.out.top
          rw [← hna] at hca hj ha6 ⊢
          rw [← hnb] at hcb hj hb6 ⊢
          have Hn := hid (And.intro hna hnb)
          clear hna hnb
          by_cases h6 : 600 < na + nb
          · rw [if_pos h6] at hj
            rw [hj] at HRc hcc ⊢
            dsimp only at HRc hcc ⊢
            have z1 : decide ((600 : Int) < (na : Int) + (nb : Int)) = true := decide_eq_true (by omega)
            clear hj h6
            go_wp2_with fail
            go_ret
            exact ⟨rfl, HK4.out⟩
          · rw [if_neg h6] at hj
            rw [hj] at HRc hcc ⊢
            dsimp only at HRc hcc ⊢
            have z1 : decide ((600 : Int) < (na : Int) + (nb : Int)) = false := decide_eq_false (by omega)
            obtain ⟨L, hL⟩ : ∃ L, L = a ++ b.map (shiftT (X.length + 1)) := ⟨_, rfl⟩
            have hLl : L.length = na + nb := by rw [hL, List.length_append, List.length_map, Hn.out.1, Hn.out.2]
            rw [← hL] at HRc hcc ⊢
            have HL := hid hL
            rw [hLl] at hcc ⊢
            have HLl := hid hLl
            clear hj h6 hL hLl
            have hta := toks_len a
            have htb := toks_len b
            rw [← Hn.out.1] at hta
            rw [← Hn.out.2] at htb
            have Ht := hid (And.intro hta htb)
            clear hta htb
            go_wp2_with (at_builtin; go_must (refine wpList_appendR rfl _ _ 42 rfl 49 (.agg #[.int .i64 0, .int .i64 0, .string ⟨#[]⟩, .bool false, .string ⟨#[]⟩, .int .i64 0]) 6 64 Tryd.underlying42 infoTok rfl (by decide) w4.heap.size 0 0 [] rfl (OwnN.of_cells (Cells.fresh w4 49 []) rfl (by decide)) A na ca (toksC a) rfl ((HRa4.out.kept ((Kp.refl _ _).alloc _)).span) Ht.out.1 (toks_one a) ?_ ?_ ?_))
            · omega
            · omega
            intro g5 c5 w5 ho5 hk5 hg5
            have hkA : Kp [] w4 w5 := ((Kp.refl _ _).alloc _).fresh hk5 (Nat.le_refl _)
            have hg5' : w4.heap.size ≤ g5 := by
              rcases hg5 with h | h
              · omega
              · rw [h]; omega
            have HRb5 := hid (HRb4.out.kept hkA)
            have Ho5 := hid ho5
            have HkA := hid (And.intro hkA hg5')
            clear ho5 hk5 hg5 hkA hg5'
            go_wp2_with (at_builtin; go_must (refine wpList_appendR rfl _ _ 42 rfl 49 (.agg #[.int .i64 0, .int .i64 0, .string ⟨#[]⟩, .bool false, .string ⟨#[]⟩, .int .i64 0]) 6 64 Tryd.underlying42 infoTok rfl (by decide) g5 na c5 (toksC a) rfl Ho5.out B nb cb (toksC b) rfl HRb5.out.span Ht.out.2 (toks_one b) ?_ ?_ ?_))
            · omega
            · omega
            intro g6 c6 w6 ho6 hk6 hg6
            have hk46 : Kp [] w4 w6 := HkA.out.1.fresh hk6 HkA.out.2
            have hab : (a ++ b).length = na + nb := by rw [List.length_append, Hn.out.1, Hn.out.2]
            have hRab : TkRow w6 (some ⟨g6, 0, none⟩) c6 (a ++ b) := by
              rw [← toks_app, ← hab] at ho6
              obtain ⟨A', c', e', h'⟩ := TkRow.of ho6
              injection e' with e1 e2 e3
              subst e1 e3
              exact h'
            have hRc6 := HRc.out.kept hk46
            have q6 := same10_any w6 C cc L hRc6 (some ⟨g6, 0, none⟩) c6 (a ++ b) hRab (.inl (by rw [HL.out]; exact join_same _ _ _))
            rw [HLl.out, hab] at q6
            have HK6 := hid (HK4.out.nil hk46)
            have HRb6 := hid (HRb4.out.kept hk46)
            have HRc6 := hid hRc6
            clear hk46 hab hRab hRc6 ho6 hk6 hg6
            go_wp2_with fail
            (with_reducible refine q6.mono ?_)
            rintro e w7 ⟨⟨sb, rfl, hsb⟩, k7⟩
            obtain rfl : sb = true := hsb (by rw [HL.out]; exact join_same _ _ _)
            have HK7 := hid (HK6.out.nil k7)
            have HRb7 := hid (HRb6.out.kept k7)
            have HRc7 := hid (HRc6.out.kept k7)
            clear hsb k7 q6 HK HK2 HK3 HK4 HK6 HRa HRa3 HRa4 HRb HRb4 HRb5 HRb6 HRc HRc6 Ho5 HkA HQ HT
            go_wp2_with fail
            go_loopw [12, 13] (fun u vi wr => u = .bool true ∧ ∃ i : Nat, vi = .int .i64 (i : Int) ∧ i ≤ nb ∧ Kp [] w7 wr) (fun _ vi _ => nb - (intOf vi).toNat)
            case atStart => exact ⟨rfl, 0, rfl, Nat.zero_le _, Kp.refl _ _⟩
            case round =>
              obtain ⟨rfl, i, rfl, hi, hk⟩ := hrel
              by_cases hlt : i < nb
              · obtain ⟨u, hu⟩ : ∃ u, b[i]? = some u := ⟨_, List.getElem?_eq_getElem (by rw [← Hn.out.2]; exact hlt)⟩
                obtain ⟨y, hy⟩ : ∃ y, y = na + i := ⟨_, rfl⟩
                have hv : L[y]? = some (shiftT (X.length + 1) u) := by
                  rw [HL.out, hy, Hn.out.1, List.getElem?_append_right (by omega), Nat.add_sub_cancel_left, List.getElem?_map, hu]
                  rfl
                obtain ⟨g, rfl, hbt⟩ := HRb7.out.at_ i u hu
                obtain ⟨h, rfl, hct⟩ := HRc7.out.at_ y _ hv
                have hup := (HPb.out i u hu).2.1
                have b1 : wr.cell? ⟨g, 6 * i + 1, none⟩ = some (.int .i64 (u.pos : Int)) := (hbt.kept hk) i u hu 1 _ rfl
                obtain ⟨pu, hpu⟩ : ∃ n, n = u.pos := ⟨_, rfl⟩
                obtain ⟨pv, hpv⟩ : ∃ n, n = X.length + 1 + pu := ⟨_, rfl⟩
                have c1 : wr.cell? ⟨h, 6 * y + 1, none⟩ = some (.int .i64 (pv : Int)) := by rw [hpv, hpu]; exact (hct.kept hk) y _ hv 1 _ rfl
                rw [← hpu] at b1 hup
                have z2 : decide ((i : Int) < (nb : Int)) = true := decide_eq_true (by omega)
                have z2n : decide (i < nb) = true := decide_eq_true hlt
                have z3 : decide ((y : Int) < (na : Int) + (nb : Int)) = true := decide_eq_true (by omega)
                have z3n : decide (y < na + nb) = true := decide_eq_true (by omega)
                have ey : (na : Int) + (i : Int) = (y : Int) := by omega
                have ep : (pu : Int) + (X.length : Int) + 1 = (pv : Int) := by omega
                have y1 : y < na + nb := by omega
                have y1i : (y : Int) < (na : Int) + (nb : Int) := by omega
                have i1i : (i : Int) < (nb : Int) := by omega
                have e6 : i * 6 = 6 * i := Nat.mul_comm _ _
                have e6y : y * 6 = 6 * y := Nat.mul_comm _ _
                have HKr := hid hk
                have hp9 : pu ≤ 500 := by omega
                have hy9 : y ≤ 1200 := by omega
                clear hu hy hv hbt hct hup hpu hpv hk
                go_wp2_with fail
                go_quiet (fail)
                generalize nq = n1 at *
                go_wp2_with fail
                go_roundw
                case rel => exact ⟨rfl, i + 1, by go_num, by omega, HKr.out.drewN _⟩
                case measure => simp [intOf]; omega
              · have hin : i = nb := by omega
                have z2 : decide ((i : Int) < (nb : Int)) = false := decide_eq_false (by omega)
                have z2n : decide (i < nb) = false := decide_eq_false hlt
                have HKe := hid (HK7.out.nil hk)
                clear hin hk
                go_wp2_with fail
                go_ret
                exact ⟨rfl, HKe.out⟩
        · clear HQ HT HRa HRa3 HRb HRc HRa4 HRb4
          obtain ⟨ea, hea⟩ : ∃ x, x = (allL X).1 := ⟨_, rfl⟩
          obtain ⟨eb, heb⟩ : ∃ x, x = (allL Y).1 := ⟨_, rfl⟩
          obtain ⟨ec, hec⟩ : ∃ x, x = (allL Z).1 := ⟨_, rfl⟩
          obtain ⟨la, hla⟩ : ∃ x, x = (allL X).2.length := ⟨_, rfl⟩
          obtain ⟨lb, hlb⟩ : ∃ x, x = (allL Y).2.length := ⟨_, rfl⟩
          obtain ⟨lc, hlc⟩ : ∃ x, x = (allL Z).2.length := ⟨_, rfl⟩
          simp only [← hea, ← heb, ← hec, ← hla, ← hlb, ← hlc]
          rw [← hea] at ha
          rw [← heb] at hb
          subst ha
          have z1 : ((eb : Int) == 0) = false := by rw [beq_eq_false_iff_ne]; omega
          have z1n : (eb == 0) = false := by rw [beq_eq_false_iff_ne]; exact hb
          clear hb hea heb hec hla hlb hlc
          go_wp2_with fail
          go_ret
          exact ⟨rfl, HK4.out⟩
      · clear HQ HT HRa HRa3 HRb HRc HRa4 HRb4
        obtain ⟨ea, hea⟩ : ∃ x, x = (allL X).1 := ⟨_, rfl⟩
        obtain ⟨eb, heb⟩ : ∃ x, x = (allL Y).1 := ⟨_, rfl⟩
        obtain ⟨ec, hec⟩ : ∃ x, x = (allL Z).1 := ⟨_, rfl⟩
        obtain ⟨la, hla⟩ : ∃ x, x = (allL X).2.length := ⟨_, rfl⟩
        obtain ⟨lb, hlb⟩ : ∃ x, x = (allL Y).2.length := ⟨_, rfl⟩
        obtain ⟨lc, hlc⟩ : ∃ x, x = (allL Z).2.length := ⟨_, rfl⟩
        simp only [← hea, ← heb, ← hec, ← hla, ← hlb, ← hlc]
        rw [← hea] at ha
        have z1 : ((ea : Int) == 0) = false := by rw [beq_eq_false_iff_ne]; omega
        have z1n : (ea == 0) = false := by rw [beq_eq_false_iff_ne]; exact ha
        clear ha hea heb hec hla hlb hlc
        go_wp2_with fail
        go_ret
        exact ⟨rfl, HK4.out⟩
theorem ljoins_card (W : World) (tabs : Tabs W) (s : ByteArray) (ws : s.size ≤ maxLen) (t : ByteArray) (wt : t.size ≤ maxLen) :
    Calls Tryd.prog 8 #[.string s, .string t] W fun e w' => e = .returned (.bool true) ∧ Kp [] W w' := by
  have h := ljoins_any W tabs s.data.toList t.data.toList (by unfold maxLen at ws; exact ws) (by unfold maxLen at wt; exact wt)
  simp only [txt_back] at h
  exact h
end Go.Proofs.YtgjffkblhhkjmaaDoor
