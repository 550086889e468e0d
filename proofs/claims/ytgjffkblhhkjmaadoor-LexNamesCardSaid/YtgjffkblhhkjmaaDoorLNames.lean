/- LexNames, walked: a name is a token of its kind, alone, a variable behind $, and a key behind a point; two names without a blank between are one, or none. -/
import Derived.Test.YtgjffkblhhkjmaaDoorLShown
namespace Go.Proofs.YtgjffkblhhkjmaaDoor
open Go Go.RowKit Go.Lib

theorem names_all {s t : Txt} (hs : nameL s = true) (ht : nameL t = true) : allL (s ++ 32 :: 36 :: (s ++ 32 :: 46 :: t)) =
    (0, [⟨1, s, none, 0⟩, ⟨2, s, none, s.length + 1⟩, ⟨3, t, none, s.length + 1 + (s.length + 2)⟩]) := by
  have h1 := (name_all hs).2.2
  have h2 := (name_all ht).2.2
  rw [all_some (by simp; omega) (lex_names hs ht)]
  rfl
theorem pair_all {s t : Txt} (hs : nameL s = true) (ht : nameL t = true) : allL (s ++ t) = if s.length + t.length ≤ 24 then (0, [⟨1, s ++ t, none, 0⟩]) else (30, []) := by
  have h1 := (name_all hs).2.2
  have h2 := (name_all ht).2.2
  obtain ⟨c, u, e, _⟩ := name_cons hs
  have hl : ¬ 2000 < (s ++ t).length := by rw [List.length_append]; omega
  have hp := lex_pair hs ht ((s ++ t).length - 1)
  rw [show (s ++ t).length - 1 + 2 = (s ++ t).length + 1 by rw [e]; simp] at hp
  by_cases h : s.length + t.length ≤ 24
  · rw [if_pos h] at hp ⊢
    rw [all_some hl hp]
    rfl
  · rw [if_neg h] at hp ⊢
    exact all_none hl hp
set_option maxRecDepth 100000 in
set_option maxHeartbeats 12800000 in
theorem lnames_any (w : World) (hT : Tabs w) (s t : Txt) (hs : s.length ≤ 9223372036854775807) (ht : t.length ≤ 9223372036854775807) :
    Calls Tryd.prog 10 #[.string ⟨s.toArray⟩, .string ⟨t.toArray⟩] w fun e w' => e = .returned (.bool true) ∧ Kp [] w w' := by
  have qh := shown10_any w hT
  have qs := fun W => rname_any W s hs
  have qt := fun W => rname_any W t ht
  have HT := hid hT
  by_cases h1 : nameL s = true
  · by_cases h2 : nameL t = true
    · rw [h1] at qs
      rw [h2] at qt
      have hs9 := (name_all h1).2.2
      have ht9 := (name_all h2).2.2
      have hsz : (⟨s.toArray⟩ : ByteArray).size = s.length := size_mk _
      have htz : (⟨t.toArray⟩ : ByteArray).size = t.length := size_mk _
      have qa := fun W (k : Kp [] w W) => all_any W (s ++ 32 :: 36 :: (s ++ 32 :: 46 :: t)) (by simp; omega) (HT.out.kept k)
      have qb := fun W (k : Kp [] w W) => all_any W (s ++ t) (by simp; omega) (HT.out.kept k)
      unfold AllPost at qa qb
      rw [names_all h1 h2] at qa
      rw [pair_all h1 h2] at qb
      have A1 := fun X => run_add_text (P := Tryd.prog) s [32, 36] (s ++ [32, 36]) rfl (by simp; omega) X
      have A2 := fun X => run_add_text (P := Tryd.prog) (s ++ [32, 36]) s (s ++ [32, 36] ++ s) rfl (by simp; omega) X
      have A3 := fun X => run_add_text (P := Tryd.prog) (s ++ [32, 36] ++ s) [32, 46] (s ++ [32, 36] ++ s ++ [32, 46]) rfl (by simp; omega) X
      have A4 := fun X => run_add_text (P := Tryd.prog) (s ++ [32, 36] ++ s ++ [32, 46]) t (s ++ 32 :: 36 :: (s ++ 32 :: 46 :: t)) (by simp) (by simp; omega) X
      have A5 := fun X => run_add_text (P := Tryd.prog) s t (s ++ t) rfl (by omega) X
      obtain ⟨X1, e1⟩ : ∃ x, x = s ++ [32, 36] := ⟨_, rfl⟩
      rw [← e1] at A1 A2 A3 A4
      obtain ⟨X2, e2⟩ : ∃ x, x = X1 ++ s := ⟨_, rfl⟩
      rw [← e2] at A2 A3 A4
      obtain ⟨X3, e3⟩ : ∃ x, x = X2 ++ [32, 46] := ⟨_, rfl⟩
      rw [← e3] at A3 A4
      obtain ⟨X4, e4⟩ : ∃ x, x = s ++ 32 :: 36 :: (s ++ 32 :: 46 :: t) := ⟨_, rfl⟩
      simp only [← e4] at A4 qa
      obtain ⟨Y, e5⟩ : ∃ x, x = s ++ t := ⟨_, rfl⟩
      simp only [← e5] at A5 qb
      clear hs ht hT e1 e2 e3 e4 e5 h1 h2
      by_cases h24 : s.length + t.length ≤ 24
      · have bb : decide ((24 : Int) < (s.length : Int) + (t.length : Int)) = false := decide_eq_false (by omega)
        simp only [if_pos h24] at qb
        go_enter Tryd.func10, Tryd.ntmps10
        go_wp2_with fail
        refine qh.mono ?_
        rintro e w1 ⟨rfl, k1⟩
        have HK := hid k1
        have qa2 := qa w1 k1
        clear k1 qa
        go_wp2_with fail
        (with_reducible refine (qs _).mono ?_)
        rintro e w2 ⟨rfl, hw2⟩
        have hw2 := hw2.symm
        subst hw2
        go_wp2_with fail
        (with_reducible refine (qt _).mono ?_)
        rintro e w2 ⟨rfl, hw2⟩
        have hw2 := hw2.symm
        subst hw2
        go_wp2_with fail
        (with_reducible refine qa2.mono ?_)
        rintro e w2 ⟨v, rfl, ho, k2⟩
        obtain ⟨g, c, rfl, hc, hc2, hcell⟩ := own_at ho (by simp [toksC, tkC, tokC])
        have a0 : w2.cell? ⟨g, 0, none⟩ = some (.int .i64 1) := hcell 0 _ rfl
        have a2 : w2.cell? ⟨g, 2, none⟩ = some (.string ⟨s.toArray⟩) := hcell 2 _ rfl
        have a6 : w2.cell? ⟨g, 6, none⟩ = some (.int .i64 2) := hcell 6 _ rfl
        have a8 : w2.cell? ⟨g, 8, none⟩ = some (.string ⟨s.toArray⟩) := hcell 8 _ rfl
        have a12 : w2.cell? ⟨g, 12, none⟩ = some (.int .i64 3) := hcell 12 _ rfl
        have a14 : w2.cell? ⟨g, 14, none⟩ = some (.string ⟨t.toArray⟩) := hcell 14 _ rfl
        have HK2 := hid (HK.out.nil k2)
        have qb2 := qb w2 HK2.out
        clear ho hcell k2 qa2 qb
        go_wp2_with fail
        (with_reducible refine qb2.mono ?_)
        rintro e w3 ⟨v, rfl, ho, k3⟩
        obtain ⟨g2, c2, rfl, hd, hd2, hcell⟩ := own_at ho (by simp [toksC, tkC, tokC])
        have b2 : w3.cell? ⟨g2, 2, none⟩ = some (.string ⟨Y.toArray⟩) := hcell 2 _ rfl
        have a0 := k3.cell a0 (by simp)
        have a2 := k3.cell a2 (by simp)
        have a6 := k3.cell a6 (by simp)
        have a8 := k3.cell a8 (by simp)
        have a12 := k3.cell a12 (by simp)
        have a14 := k3.cell a14 (by simp)
        have HK3 := hid (HK2.out.nil k3)
        clear ho hcell k3 qb2 HK2 HK
        simp only [List.length_cons, List.length_nil] at hc hd ⊢
        go_wp2_with fail
        go_ret
        exact ⟨rfl, HK3.out⟩
      · have bb : decide ((24 : Int) < (s.length : Int) + (t.length : Int)) = true := decide_eq_true (by omega)
        simp only [if_neg h24] at qb
        go_enter Tryd.func10, Tryd.ntmps10
        go_wp2_with fail
        refine qh.mono ?_
        rintro e w1 ⟨rfl, k1⟩
        have HK := hid k1
        have qa2 := qa w1 k1
        clear k1 qa
        go_wp2_with fail
        (with_reducible refine (qs _).mono ?_)
        rintro e w2 ⟨rfl, hw2⟩
        have hw2 := hw2.symm
        subst hw2
        go_wp2_with fail
        (with_reducible refine (qt _).mono ?_)
        rintro e w2 ⟨rfl, hw2⟩
        have hw2 := hw2.symm
        subst hw2
        go_wp2_with fail
        (with_reducible refine qa2.mono ?_)
        rintro e w2 ⟨v, rfl, ho, k2⟩
        obtain ⟨g, c, rfl, hc, hc2, hcell⟩ := own_at ho (by simp [toksC, tkC, tokC])
        have a0 : w2.cell? ⟨g, 0, none⟩ = some (.int .i64 1) := hcell 0 _ rfl
        have a2 : w2.cell? ⟨g, 2, none⟩ = some (.string ⟨s.toArray⟩) := hcell 2 _ rfl
        have a6 : w2.cell? ⟨g, 6, none⟩ = some (.int .i64 2) := hcell 6 _ rfl
        have a8 : w2.cell? ⟨g, 8, none⟩ = some (.string ⟨s.toArray⟩) := hcell 8 _ rfl
        have a12 : w2.cell? ⟨g, 12, none⟩ = some (.int .i64 3) := hcell 12 _ rfl
        have a14 : w2.cell? ⟨g, 14, none⟩ = some (.string ⟨t.toArray⟩) := hcell 14 _ rfl
        have HK2 := hid (HK.out.nil k2)
        have qb2 := qb w2 HK2.out
        clear ho hcell k2 qa2 qb
        go_wp2_with fail
        (with_reducible refine qb2.mono ?_)
        rintro e w3 ⟨v, rfl, ho, k3⟩
        obtain ⟨A2, c2, rfl, -⟩ := ho.shape
        have a0 := k3.cell a0 (by simp)
        have a2 := k3.cell a2 (by simp)
        have a6 := k3.cell a6 (by simp)
        have a8 := k3.cell a8 (by simp)
        have a12 := k3.cell a12 (by simp)
        have a14 := k3.cell a14 (by simp)
        have HK3 := hid (HK2.out.nil k3)
        clear ho k3 qb2 HK2 HK
        simp only [List.length_cons, List.length_nil] at hc ⊢
        go_wp2_with fail
        go_ret
        exact ⟨rfl, HK3.out⟩
    · rw [h1] at qs
      simp only [Bool.not_eq_true] at h2
      rw [h2] at qt
      clear hs ht hT h1 h2
      go_enter Tryd.func10, Tryd.ntmps10
      go_wp2_with fail
      refine qh.mono ?_
      rintro e w1 ⟨rfl, k1⟩
      have HK := hid k1
      clear k1
      go_wp2_with fail
      (with_reducible refine (qs _).mono ?_)
      rintro e w2 ⟨rfl, hw2⟩
      have hw2 := hw2.symm
      subst hw2
      go_wp2_with fail
      (with_reducible refine (qt _).mono ?_)
      rintro e w2 ⟨rfl, hw2⟩
      have hw2 := hw2.symm
      subst hw2
      go_wp2_with fail
      go_ret
      exact ⟨rfl, HK.out⟩
  · simp only [Bool.not_eq_true] at h1
    rw [h1] at qs
    obtain ⟨b2, hb2⟩ : ∃ b, b = nameL t := ⟨_, rfl⟩
    simp only [← hb2] at qt
    clear hs ht hT h1 hb2
    go_enter Tryd.func10, Tryd.ntmps10
    go_wp2_with fail
    refine qh.mono ?_
    rintro e w1 ⟨rfl, k1⟩
    have HK := hid k1
    clear k1
    go_wp2_with fail
    (with_reducible refine (qs _).mono ?_)
    rintro e w2 ⟨rfl, hw2⟩
    have hw2 := hw2.symm
    subst hw2
    go_wp2_with fail
    (with_reducible refine (qt _).mono ?_)
    rintro e w2 ⟨rfl, hw2⟩
    have hw2 := hw2.symm
    subst hw2
    go_wp2_with fail
    go_ret
    exact ⟨rfl, HK.out⟩
theorem txt_back (s : ByteArray) : (⟨s.data.toList.toArray⟩ : ByteArray) = s := by rw [Array.toArray_toList]
theorem lnames_card (W : World) (tabs : Tabs W) (s : ByteArray) (ws : s.size ≤ maxLen) (t : ByteArray) (wt : t.size ≤ maxLen) :
    Calls Tryd.prog 10 #[.string s, .string t] W fun e w' => e = .returned (.bool true) ∧ Kp [] W w' := by
  have h := lnames_any W tabs s.data.toList t.data.toList (by unfold maxLen at ws; exact ws) (by unfold maxLen at wt; exact wt)
  simp only [txt_back] at h
  exact h
end Go.Proofs.YtgjffkblhhkjmaaDoor
