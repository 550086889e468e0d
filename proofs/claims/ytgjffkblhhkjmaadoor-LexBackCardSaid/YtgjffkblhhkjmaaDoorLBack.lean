/- LexBack, walked: tokens that were written are read as they were; blanks around do not matter. -/
import Derived.Test.YtgjffkblhhkjmaaDoorLPrint
import Derived.Test.YtgjffkblhhkjmaaDoorLJoins
namespace Go.Proofs.YtgjffkblhhkjmaaDoor
open Go Go.RowKit Go.Lib

theorem all_600 {X : Txt} (h : X.length ≤ 600) : allL X = (30, []) ∨ ∃ l, allL X = (0, l) := by
  cases hl : lexG X 0 with
  | none => exact .inl (all_none (by omega) hl)
  | some l =>
    have := (lex_places _ X X 0 l hl rfl (Nat.zero_le _)).2
    have h2 := all_some (by omega) hl
    rw [if_neg (by omega)] at h2
    exact .inr ⟨l, h2⟩
theorem places_fine {S : Txt} : ∀ {lo : Nat} {l : List Tk}, PlT S lo l → ∀ t ∈ l, FineT t
  | _, _ :: r, h, t, ht => by
    rcases List.mem_cons.1 ht with rfl | ht
    · obtain ⟨n, h1⟩ := h.2.2.1
      exact fine_of h1 _
    · exact places_fine h.2.2.2 t ht
theorem back_all {l : List Tk} (hg : ∀ t ∈ l, GoodT t) (h6 : l.length ≤ 600) : ∃ m, SameT l m ∧ allL (joinB (l.map writ)) = if 2000 < (joinB (l.map writ)).length then (3, []) else (0, m) := by
  obtain ⟨m, h1, h2⟩ := lex_back l hg ((joinB (l.map writ)).length + 2) 0 (by omega)
  have h3 : lexG (joinB (l.map writ)) 0 = some m := by
    unfold lexG
    rw [lexGo_fuel _ ((joinB (l.map writ)).length + 2) _ _ (by omega) (by omega)]
    exact h1
  refine ⟨m, h2, ?_⟩
  have hm := same_len h2
  split
  · rename_i h; exact all_big h
  · rename_i h
    rw [all_some h h3, if_neg (by omega)]
theorem around_all {l : List Tk} (hg : ∀ t ∈ l, GoodT t) (h6 : l.length ≤ 600) : ∃ m, SameT l m ∧ allL ([32, 10] ++ joinB (l.map writ) ++ [9, 32]) = if 2000 < (joinB (l.map writ)).length + 4 then (3, []) else (0, m) := by
  obtain ⟨T, hT⟩ : ∃ T, T = joinB (l.map writ) := ⟨_, rfl⟩
  obtain ⟨m, h1, h2⟩ := lex_back l hg ((joinB (l.map writ)).length + 2) 2 (by omega)
  rw [← hT] at h1 ⊢
  have hU : ([32, 10] ++ T ++ [9, 32] : Txt).length = T.length + 4 := by simp
  have h3 : lexG ([32, 10] ++ T ++ [9, 32]) 0 = some m := by
    unfold lexG
    rw [hU]
    show lexGo (T.length + 4 + 1) (32 :: 10 :: (T ++ [9, 32])) 0 = some m
    rw [lex_ahead (by decide), lex_ahead (by decide)]
    exact lex_behind (by decide) (by decide) _ _ T 2 m h1 (by omega)
  refine ⟨m, h2, ?_⟩
  have hm := same_len h2
  rw [← hU]
  split
  · rename_i h; exact all_big h
  · rename_i h
    rw [all_some h h3, if_neg (by omega)]
theorem same_or {l m m' : List Tk} (h : SameT l m) (c : m' = m ∨ m' = []) : SameT l m' ∨ l.length ≠ m'.length := by
  rcases c with rfl | rfl
  · exact .inl h
  · cases l with
    | nil => exact .inl rfl
    | cons t r => exact .inr (by simp)
set_option maxRecDepth 100000 in
set_option maxHeartbeats 12800000 in
theorem lback_any (w : World) (hT : Tabs w) (s : Txt) (hs : s.length ≤ 9223372036854775807) :
    Calls Tryd.prog 11 #[.string ⟨s.toArray⟩] w fun e w' => e = .returned (.bool true) ∧ Kp [] w w' := by
  have qh := shown10_any w hT
  have HT := hid hT
  have hX9 := firstN_len 600 s
  have hsz : (⟨s.toArray⟩ : ByteArray).size = s.length := size_mk _
  have hes := extract_mk s 0 600
  rw [List.drop_zero] at hes
  obtain ⟨X, hX⟩ : ∃ S, S = firstN 600 s := ⟨_, rfl⟩
  rw [← hX] at hX9
  have HX := hid hX
  have qa := fun W (k : Kp [] w W) => all_any W X (by omega) (HT.out.kept k)
  have HQ := hid qa
  clear hT hX qa
  go_enter Tryd.func11, Tryd.ntmps11
  go_wp2_with fail
  refine qh.mono ?_
  rintro e w1 ⟨rfl, k1⟩
  have HK := hid k1
  clear k1 qh
  go_upto_if 16 with fail
  go_cut [0, 16] (fun v _ wx => v = .string ⟨X.toArray⟩ ∧ wx = w1)
  case first => as_aux_lemma =>
    by_cases h : 600 < s.length
    · have Hr := hid (show X = s.take 600 by rw [HX.out]; unfold firstN; rw [if_pos h])
      go_wp2_with fail
      go_meet
      exact ⟨by rw [Hr.out], rfl⟩
    · have Hr := hid (show X = s by rw [HX.out]; unfold firstN; rw [if_neg h])
      go_wp2_with fail
      go_meet
      exact ⟨by rw [Hr.out], rfl⟩
  case rest =>
    obtain ⟨rfl, hw⟩ := hcut
    have hw := hw.symm
    subst hw
    clear hes hsz hs
    have q1 := HQ.out w1 HK.out
    unfold AllPost at q1
    rcases all_600 hX9 with ha | ⟨l, ha⟩
    · rw [ha] at q1
      clear HQ HT
      go_wp2_with fail
      (with_reducible refine q1.mono ?_)
      rintro e w2 ⟨v, rfl, ho, k2⟩
      obtain ⟨A, ca, rfl, -⟩ := TkRow.of ho
      have HK2 := hid (HK.out.nil k2)
      clear ho k2 q1
      go_wp2_with fail
      go_ret
      exact ⟨rfl, HK2.out⟩
    · rw [ha] at q1
      dsimp only at q1
      have hpl := (all_places ha).1
      have ha6 := (all_ok ha).2
      obtain ⟨m, sm, hm⟩ := back_all (places_good hpl) ha6
      obtain ⟨m2, sm2, hm2⟩ := around_all (places_good hpl) ha6
      have HF := hid (places_fine hpl)
      have hTl := ljoin_len (l.map writ) (fun x hx => by
        obtain ⟨t, ht, rfl⟩ := List.mem_map.1 hx
        exact writ_len (HF.out t ht))
      rw [List.length_map] at hTl
      obtain ⟨T, hT2⟩ : ∃ T, T = joinB (l.map writ) := ⟨_, rfl⟩
      rw [← hT2] at hm hm2 hTl
      have hT9 : T.length ≤ 18000600 := by omega
      have qt := fun W (k : Kp [] w W) => all_any W T (by omega) (HT.out.kept k)
      have qu := fun W (k : Kp [] w W) => all_any W ([32, 10] ++ T ++ [9, 32]) (by simp; omega) (HT.out.kept k)
      have A1 := fun W => run_add_text (P := Tryd.prog) [32, 10] T ([32, 10] ++ T) rfl (by simp; omega) W
      have A2 := fun W => run_add_text (P := Tryd.prog) ([32, 10] ++ T) [9, 32] ([32, 10] ++ T ++ [9, 32]) rfl (by simp; omega) W
      obtain ⟨U1, e1⟩ : ∃ x, x = [32, 10] ++ T := ⟨_, rfl⟩
      rw [← e1] at A1 A2 hm2
      simp only [← e1] at qu
      obtain ⟨U, hU⟩ : ∃ x, x = U1 ++ [9, 32] := ⟨_, rfl⟩
      rw [← hU] at A2 hm2
      simp only [← hU] at qu
      unfold AllPost at qt qu
      obtain ⟨M, hM⟩ : ∃ x, x = (allL T).2 := ⟨_, rfl⟩
      obtain ⟨f, hf⟩ : ∃ x, x = (allL T).1 := ⟨_, rfl⟩
      obtain ⟨M2, hM2⟩ : ∃ x, x = (allL U).2 := ⟨_, rfl⟩
      obtain ⟨g, hg⟩ : ∃ x, x = (allL U).1 := ⟨_, rfl⟩
      have hc1 : M = m ∨ M = [] := by rw [hM, hm]; split; exact .inr rfl; exact .inl rfl
      have hc2 : M2 = m2 ∨ M2 = [] := by rw [hM2, hm2]; split; exact .inr rfl; exact .inl rfl
      have s1 := same_or sm hc1
      have s2 := same_or sm2 hc2
      simp only [← hM, ← hf] at qt
      simp only [← hM2, ← hg] at qu
      have hTz : (⟨T.toArray⟩ : ByteArray).size = T.length := size_mk _
      have HS := hid (And.intro s1 s2)
      have HQ2 := hid (And.intro qt qu)
      have hbig : 2000 < T.length → f = 3 := fun h => by rw [hf, hm, if_pos h]
      have hsm : ¬ 2000 < T.length → f = 0 ∧ SameT l M := fun h => by rw [hf, hM, hm, if_neg h]; exact ⟨rfl, sm⟩
      have hsm2 : ¬ 2000 < T.length + 4 → g = 0 ∧ SameT l M2 := fun h => by rw [hg, hM2, hm2, if_neg h]; exact ⟨rfl, sm2⟩
      have HB := hid (And.intro hbig (And.intro hsm hsm2))
      have HT2 := hid hT2
      clear hbig hsm hsm2 hf hg hM hM2 hm hm2 hc1 hc2 s1 s2 sm sm2 qt qu e1 hU hTl hT2 hpl HT HQ ha
      go_wp2_with fail
      (with_reducible refine q1.mono ?_)
      rintro e w2 ⟨v, rfl, ho, k2⟩
      obtain ⟨A, ca, rfl, hRa⟩ := TkRow.of ho
      have HRa := hid hRa
      have HK2 := hid (HK.out.nil k2)
      have q2 := lprint_any w2 A ca l hRa ha6 HF.out
      rw [← HT2.out] at q2
      have la1 := hRa.le
      have la2 := hRa.top
      clear ho hRa k2 q1
      go_wp2_with fail
      (with_reducible refine q2.mono ?_)
      rintro e w3 ⟨rfl, k3⟩
      have HRa3 := hid (HRa.out.kept k3)
      have HK3 := hid (HK2.out.nil k3)
      have q3 := HQ2.out.1 w3 HK3.out
      clear k3 q2
      go_wp2_with fail
      (with_reducible refine q3.mono ?_)
      rintro e w4 ⟨v, rfl, ho, k4⟩
      obtain ⟨B, cb, rfl, hRb⟩ := TkRow.of ho
      have HRb4 := hid hRb
      have HRa4 := hid (HRa3.out.kept k4)
      have HK4 := hid (HK3.out.nil k4)
      have q4 := HQ2.out.2 w4 HK4.out
      have lb1 := hRb.le
      have lb2 := hRb.top
      clear ho hRb k4 q3
      go_wp2_with fail
      (with_reducible refine q4.mono ?_)
      rintro e w5 ⟨v, rfl, ho, k5⟩
      obtain ⟨C, cc, rfl, hRc⟩ := TkRow.of ho
      have HRc5 := hid hRc
      have HRb5 := hid (HRb4.out.kept k5)
      have HRa5 := hid (HRa4.out.kept k5)
      have HK5 := hid (HK4.out.nil k5)
      have q5 := same10_any w5 A ca l HRa5.out B cb M HRb5.out HS.out.1
      clear ho hRc k5 q4
      go_wp2_with fail
      (with_reducible refine q5.mono ?_)
      rintro e w6 ⟨⟨b1, rfl, hb1⟩, k6⟩
      have q6 := same10_any w6 A ca l (HRa5.out.kept k6) C cc M2 (HRc5.out.kept k6) HS.out.2
      have HK6 := hid (HK5.out.nil k6)
      have HB1 := hid hb1
      clear hb1 k6 q5
      go_wp2_with fail
      (with_reducible refine q6.mono ?_)
      rintro e w7 ⟨⟨b2, rfl, hb2⟩, k7⟩
      have HK7 := hid (HK6.out.nil k7)
      have HB2 := hid hb2
      clear hb2 k7 q6
      by_cases h2000 : 2000 < T.length
      · have hf3 := HB.out.1 h2000
        subst hf3
        go_wp2_with fail
        go_ret
        exact ⟨rfl, HK7.out⟩
      · obtain ⟨hf0, hs1⟩ := HB.out.2.1 h2000
        have hb1 := HB1.out hs1
        subst hf0 hb1
        have z1 : decide ((2000 : Int) < (T.length : Int)) = false := decide_eq_false (by omega)
        have z1n : decide (2000 < T.length) = false := decide_eq_false h2000
        by_cases h1996 : 1996 < T.length
        · have z2 : decide ((1996 : Int) < (T.length : Int)) = true := decide_eq_true (by omega)
          have z2n : decide (1996 < T.length) = true := decide_eq_true h1996
          clear hs1 h2000 h1996
          go_wp2_with fail
          go_ret
          exact ⟨rfl, HK7.out⟩
        · obtain ⟨hg0, hs2⟩ := HB.out.2.2 (by omega)
          have hb2 := HB2.out hs2
          subst hg0 hb2
          have z2 : decide ((1996 : Int) < (T.length : Int)) = false := decide_eq_false (by omega)
          have z2n : decide (1996 < T.length) = false := decide_eq_false h1996
          clear hs1 hs2 h2000 h1996
          go_wp2_with fail
          go_ret
          exact ⟨rfl, HK7.out⟩
theorem lback_card (W : World) (tabs : Tabs W) (s : ByteArray) (ws : s.size ≤ maxLen) :
    Calls Tryd.prog 11 #[.string s] W fun e w' => e = .returned (.bool true) ∧ Kp [] W w' := by
  have h := lback_any W tabs s.data.toList (by unfold maxLen at ws; exact ws)
  simp only [txt_back] at h
  exact h
end Go.Proofs.YtgjffkblhhkjmaaDoor
