/- The document's example; texts of a few bytes. -/
import Derived.Test.YtaaikjedagnjbaaGEval
import Derived.Test.YtaaikjedagnjbaaRefRune
namespace Go.Proofs.Ytaaikjedagnjbaa
open Go Go.RowKit Go.Lib

set_option maxRecDepth 100000 in
set_option maxHeartbeats 6400000 in
theorem shown_any (w : World) : Calls Try.prog 9 #[] w fun e w' => e = .returned (.bool true) ∧ Kp [] w w' := by
  have q1 := find_any w ⟨#[91, 97, 45, 99, 93, 43, 100, 63]⟩ ⟨#[120, 97, 98, 99, 100, 120]⟩ (by decide) (by decide)
  go_enter Try.func9, Try.ntmps9
  go_wp2_with fail
  (with_reducible refine q1.mono ?_)
  clear q1
  rintro e w1 ⟨⟨p, q, rfl, hp⟩, k1⟩
  unfold FindP at hp
  rw [ex_parse] at hp
  replace hp : FoundR (cps ⟨#[120, 97, 98, 99, 100, 120]⟩) exR p q := hp
  rw [ex_text] at hp
  obtain ⟨rfl, rfl⟩ := found_one hp ex_found
  clear hp
  rw [show (codeR ⟨#[91, 97, 45, 99, 93, 43, 100, 63]⟩ : Nat) = 0 from code_some ex_parse]
  have HK1 := hid k1
  have q2 := test_any w1 ⟨#[94, 97]⟩ ⟨#[98, 97]⟩ (by decide) (by decide)
  clear k1
  go_wp2_with fail
  (with_reducible refine q2.mono ?_)
  clear q2
  rintro e w2 ⟨⟨t, rfl, p, q, hp, ht⟩, k2⟩
  unfold FindP at hp
  rw [ex2_parse] at hp
  replace hp : FoundR (cps ⟨#[98, 97]⟩) _ p q := hp
  rw [show cps ⟨#[98, 97]⟩ = [98, 97] from cps_ascii _ (by decide)] at hp
  have hp1 := ex2_none hp
  subst hp1
  rw [show (codeR ⟨#[94, 97]⟩ : Nat) = 0 from code_some ex2_parse] at ht ⊢
  replace ht : t = false := by rw [ht]; rfl
  subst ht
  clear hp
  have HK2 := hid (HK1.out.nil k2)
  have q3 := may_any w2 ⟨#[40]⟩ (by decide)
  rw [show (codeR ⟨#[40]⟩ : Nat) = 32 by unfold codeR; rw [ex3_none]; rfl] at q3
  simp only [show ((32 : Nat) : Int) = 32 from rfl] at q3
  clear k2
  go_wp2_with fail
  (with_reducible refine q3.mono ?_)
  clear q3
  rintro e w3 ⟨rfl, k3⟩
  have HK3 := hid (HK2.out.nil k3)
  clear k3
  go_wp2_with fail
  go_ret
  exact ⟨rfl, HK3.out⟩
/-- A text's first bytes, if these are UTF-8. -/
def cutS (m : Nat) (s : ByteArray) : ByteArray := if m < s.size then s.extract 0 m else s
def firstS (m : Nat) (s : ByteArray) : ByteArray := if validD (cutS m s).data.toList then cutS m s else ⟨#[]⟩
theorem first_valid (m : Nat) (s : ByteArray) : validD (firstS m s).data.toList = true := by
  unfold firstS
  by_cases h : validD (cutS m s).data.toList = true
  · rw [if_pos h]; exact h
  · rw [if_neg h]; rfl
theorem cut_size (m : Nat) (s : ByteArray) : (cutS m s).size ≤ m := by
  unfold cutS
  split
  · rw [ByteArray.size_extract]; omega
  · omega
theorem first_size (m : Nat) (s : ByteArray) : (firstS m s).size ≤ m := by
  unfold firstS
  by_cases h : validD (cutS m s).data.toList = true
  · rw [if_pos h]; exact cut_size m s
  · rw [if_neg h]; exact Nat.zero_le _
set_option maxRecDepth 100000 in
theorem few_any (w : World) (s : ByteArray) (_ : s.size ≤ 9223372036854775807) : Calls Try.prog 11 #[.string s] w fun e w' => e = .returned (.string (firstS 40 s)) ∧ w' = w := by
  have hc := cut_size 40 s
  have qv := rvalid_any w (cutS 40 s) (by omega)
  obtain ⟨b, hb⟩ : ∃ b, b = validD (cutS 40 s).data.toList := ⟨_, rfl⟩
  rw [← hb] at qv
  have hf : firstS 40 s = if b then cutS 40 s else ⟨#[]⟩ := by rw [hb]; rfl
  have HF := hid hf
  clear hb hf hc
  by_cases h : 40 < s.size
  · have hcs : cutS 40 s = s.extract 0 40 := if_pos h
    rw [hcs] at qv HF
    have b0 : decide ((40 : Int) < (s.size : Int)) = true := decide_eq_true (by omega)
    have b1 : (40 : Int) < (s.size : Int) := by omega
    have b2 : (40 : Int) ≤ (s.size : Int) := by omega
    have b3 : 40 ≤ s.size := by omega
    clear hcs
    go_enter Try.func11, Try.ntmps11
    go_wp2_with fail
    (with_reducible refine qv.mono ?_)
    clear qv
    rintro e w1 ⟨rfl, hw⟩
    rw [hw]
    clear hw
    cases b with
    | true =>
      go_wp2_with fail
      go_ret
      exact ⟨by rw [HF.out]; rfl, rfl⟩
    | false =>
      go_wp2_with fail
      go_ret
      exact ⟨by rw [HF.out]; rfl, rfl⟩
  · have hcs : cutS 40 s = s := if_neg h
    rw [hcs] at qv HF
    have b0 : decide ((40 : Int) < (s.size : Int)) = false := decide_eq_false (by omega)
    have b1 : ¬ (40 : Int) < (s.size : Int) := by omega
    clear hcs
    go_enter Try.func11, Try.ntmps11
    go_wp2_with fail
    (with_reducible refine qv.mono ?_)
    clear qv
    rintro e w1 ⟨rfl, hw⟩
    rw [hw]
    clear hw
    cases b with
    | true =>
      go_wp2_with fail
      go_ret
      exact ⟨by rw [HF.out]; rfl, rfl⟩
    | false =>
      go_wp2_with fail
      go_ret
      exact ⟨by rw [HF.out]; rfl, rfl⟩
set_option maxRecDepth 100000 in
theorem short_any (w : World) (s : ByteArray) (_ : s.size ≤ 9223372036854775807) : Calls Try.prog 10 #[.string s] w fun e w' => e = .returned (.string (firstS 110 s)) ∧ w' = w := by
  have hc := cut_size 110 s
  have qv := rvalid_any w (cutS 110 s) (by omega)
  obtain ⟨b, hb⟩ : ∃ b, b = validD (cutS 110 s).data.toList := ⟨_, rfl⟩
  rw [← hb] at qv
  have hf : firstS 110 s = if b then cutS 110 s else ⟨#[]⟩ := by rw [hb]; rfl
  have HF := hid hf
  clear hb hf hc
  by_cases h : 110 < s.size
  · have hcs : cutS 110 s = s.extract 0 110 := if_pos h
    rw [hcs] at qv HF
    have b0 : decide ((110 : Int) < (s.size : Int)) = true := decide_eq_true (by omega)
    have b1 : (110 : Int) < (s.size : Int) := by omega
    have b2 : (110 : Int) ≤ (s.size : Int) := by omega
    have b3 : 110 ≤ s.size := by omega
    clear hcs
    go_enter Try.func10, Try.ntmps10
    go_wp2_with fail
    (with_reducible refine qv.mono ?_)
    clear qv
    rintro e w1 ⟨rfl, hw⟩
    rw [hw]
    clear hw
    cases b with
    | true =>
      go_wp2_with fail
      go_ret
      exact ⟨by rw [HF.out]; rfl, rfl⟩
    | false =>
      go_wp2_with fail
      go_ret
      exact ⟨by rw [HF.out]; rfl, rfl⟩
  · have hcs : cutS 110 s = s := if_neg h
    rw [hcs] at qv HF
    have b0 : decide ((110 : Int) < (s.size : Int)) = false := decide_eq_false (by omega)
    have b1 : ¬ (110 : Int) < (s.size : Int) := by omega
    clear hcs
    go_enter Try.func10, Try.ntmps10
    go_wp2_with fail
    (with_reducible refine qv.mono ?_)
    clear qv
    rintro e w1 ⟨rfl, hw⟩
    rw [hw]
    clear hw
    cases b with
    | true =>
      go_wp2_with fail
      go_ret
      exact ⟨by rw [HF.out]; rfl, rfl⟩
    | false =>
      go_wp2_with fail
      go_ret
      exact ⟨by rw [HF.out]; rfl, rfl⟩
end Go.Proofs.Ytaaikjedagnjbaa
