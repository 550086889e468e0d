/- QuoteCuts: a text cut at any place is its two parts. -/
import Derived.Test.YtdmajeidggjalaaDoorQLists
namespace Go.Proofs.YtdmajeidggjalaaDoor
open Go Go.RowKit

set_option maxRecDepth 100000 in
set_option maxHeartbeats 3200000 in
theorem cuts_any (w : World) (hT : Tabs w) (s : ByteArray) (hs : s.size ≤ maxLen) (a : Int) (ha : -9223372036854775808 ≤ a ∧ a ≤ 9223372036854775807) : Calls Tryd.prog 8 #[.string s, .int .i64 a] w (YesPost w) := by
  have hs2 : s.size ≤ 9223372036854775807 := hs
  obtain ⟨ha1, ha2⟩ := ha
  clear hs
  go_enter Tryd.func8, Tryd.ntmps8
  go_wp2_with fail
  refine (shown_any w hT).mono ?_
  rintro e w1 ⟨rfl, k1⟩
  have hT1 := hT.kept k1
  go_upto_if 14 with fail
  go_cut [0] (fun v wx => v = .string (fewL 1000 s) ∧ wx = w1)
  case first =>
    by_cases h : 1000 < s.size
    · have hf := hid (show fewL 1000 s = s.extract 0 1000 from if_pos h)
      go_wp2_with fail
      go_meet
      exact ⟨by rw [hf.out], rfl⟩
    · have hf := hid (show fewL 1000 s = s from if_neg h)
      go_wp2_with fail
      go_meet
      exact ⟨by rw [hf.out], rfl⟩
  case rest =>
    obtain ⟨rfl, hwc⟩ := hcut
    subst wc
    obtain ⟨L, hl, hls, hfew⟩ := few_list 1000 s
    rw [hfew]
    clear hfew
    have hnl := length_parts_le L
    have hr := fun W => runes_l W L (by omega)
    have x1 := cut_all L
    have x2 := cut_none L
    have x3 := cut_left L a
    have x4 := cut_right L a
    have x5 := cut_valid L
    obtain ⟨n, hn⟩ : ∃ n, n = (partsL L).length := ⟨_, rfl⟩
    simp only [← hn] at hnl hr x1 x2 x3 x4 x5
    have c1 := fun W => cut_l W L 0 a (by omega)
    have c2 := fun W => cut_l W L (max a 0) (n : Int) (by omega)
    have c3 := fun W => cut_l W L 0 (n : Int) (by omega)
    have c4 := fun W => cut_l W L (n : Int) ((n : Int) + 9) (by omega)
    rw [x1] at c3
    rw [x2] at c4
    have lA := cutL_len L 0 a
    have lB := cutL_len L (max a 0) (n : Int)
    obtain ⟨k, hk⟩ : ∃ k, k = fromN n a := ⟨_, rfl⟩
    have e1 := fromN_eq n a
    have hkn : k ≤ n := by rw [hk]; unfold fromN; omega
    simp only [← hk] at x3 x4 e1
    obtain ⟨A, hA⟩ : ∃ A, A = cutL L 0 a := ⟨_, rfl⟩
    obtain ⟨B, hB⟩ : ∃ B, B = cutL L (max a 0) (n : Int) := ⟨_, rfl⟩
    have hv := fun h => x5 h a
    simp only [← hA, ← hB] at x3 x4 c1 c2 lA lB hv
    simp only [← hk] at hv
    have hAB : L = A ++ B := by rw [x3, x4, List.take_append_drop]
    have hadd := fun W => run_add_text (P := Tryd.prog) A B L hAB (by omega) W
    have rA := fun W => runes_l W A (by omega)
    have rB := fun W => runes_l W B (by omega)
    have vA := fun W hW => valid_l W A (by omega) hW
    have vB := fun W hW => valid_l W B (by omega) hW
    have vL := fun W hW => valid_l W L (by omega) hW
    obtain ⟨V, hV⟩ : ∃ V, V = Lib.validD L := ⟨_, rfl⟩
    simp only [← hV] at vL hv
    have Hv := hid hv
    have Hx := hid (And.intro hn (And.intro hk (And.intro hA (And.intro hB (And.intro hV hAB)))))
    clear x1 x2 x3 x4 x5 hn hk hA hB hV hv hAB
    go_wp2_with fail
    refine (hr _).mono ?_
    rintro e w2 ⟨rfl, k2⟩
    go_wp2_with fail
    refine (c1 _).mono ?_
    rintro e w3 ⟨rfl, k3⟩
    go_wp2_with fail
    refine (c2 _).mono ?_
    rintro e w4 ⟨rfl, k4⟩
    have hT4 := ((hT1.kept k2).kept k3).kept k4
    go_wp2_with fail
    refine (vL _ hT4).mono ?_
    rintro e w5 ⟨rfl, k5⟩
    have hT5 := hT4.kept k5
    have kw5 := (((k1.nil k2).nil k3).nil k4).nil k5
    clear k1 k2 k3 k4 k5
    cases V with
    | false =>
      go_wp2_with fail
      refine (c3 _).mono ?_
      rintro e w6 ⟨rfl, k6⟩
      go_wp2_with fail
      refine (c4 _).mono ?_
      rintro e w7 ⟨rfl, k7⟩
      have HF := hid ((kw5.nil k6).nil k7)
      clear k6 k7 kw5
      go_wp2_with fail
      go_ret
      exact ⟨rfl, HF.out⟩
    | true =>
      obtain ⟨y1, y2, y3, y4⟩ := Hv.out rfl
      simp only [y3] at rA
      simp only [y4] at rB
      rw [y1] at vA
      rw [y2] at vB
      obtain ⟨q, hq⟩ : ∃ q, q = n - k := ⟨_, rfl⟩
      rw [← hq] at rB
      have hqn : n = k + q := by omega
      have hb : ((q : Int) == (n : Int) - (k : Int)) = true := by rw [beq_iff_eq]; omega
      clear y1 y2 y3 y4 hq hqn
      go_wp2_with fail
      refine (rA _).mono ?_
      rintro e w6 ⟨rfl, k6⟩
      go_wp2_with fail
      refine (rB _).mono ?_
      rintro e w7 ⟨rfl, k7⟩
      have hT7 := (hT5.kept k6).kept k7
      go_wp2_with fail
      refine (vA _ hT7).mono ?_
      rintro e w8 ⟨rfl, k8⟩
      have hT8 := hT7.kept k8
      go_wp2_with fail
      refine (vB _ hT8).mono ?_
      rintro e w9 ⟨rfl, k9⟩
      go_wp2_with fail
      refine (c3 _).mono ?_
      rintro e w10 ⟨rfl, k10⟩
      go_wp2_with fail
      refine (c4 _).mono ?_
      rintro e w11 ⟨rfl, k11⟩
      have HF := hid ((((((kw5.nil k6).nil k7).nil k8).nil k9).nil k10).nil k11)
      clear k6 k7 k8 k9 k10 k11 kw5
      go_wp2_with fail
      go_ret
      exact ⟨rfl, HF.out⟩
end Go.Proofs.YtdmajeidggjalaaDoor
