/- Plain: a decimal without its sign, and turned; where the point stands in a printed one. No program in sight. -/
import Derived.Test.YtampgimmodomoaaDoorDText
import Derived.Test.YtampgimmodomoaaDoorDSum
namespace Go.Proofs.YtampgimmodomoaaDoor

theorem sub_zero_turn {d : Dc} (hd : Ok d) : subD zeroD d = some (turn d) := by
  refine subD_is (ok_turn hd) ?_
  obtain ⟨e1, e2, _⟩ := z_turn d
  have e0 : zeroD.z = 0 := rfl
  have e3 : zeroD.s = 0 := rfl
  rw [e1, e2, e0, e3]
  simp
theorem turn_sq (d : Dc) : mulD (turn d) (turn d) = mulD d d := by
  obtain ⟨e1, e2, _⟩ := z_turn d
  unfold mulD
  rw [e1, e2, Int.neg_mul_neg]
theorem turn_neg {d : Dc} (hd : Ok d) (h : d.neg = true) : turn d = ⟨false, d.n, d.s⟩ := by
  unfold turn
  have h0 : d.n ≠ 0 := fun h0 => by have := (hd.2.2.1 h0).2; rw [h] at this; cases this
  rw [if_neg h0, h]
  rfl
theorem ok_plain {d : Dc} (hd : Ok d) : Ok ⟨false, d.n, d.s⟩ := ⟨hd.1, hd.2.1, fun h => ⟨(hd.2.2.1 h).1, rfl⟩, hd.2.2.2⟩
theorem cmp_plain (d : Dc) : 0 ≤ cmpD ⟨false, d.n, d.s⟩ zeroD := by
  have e : (⟨false, d.n, d.s⟩ : Dc).z = (d.n : Int) := rfl
  have e0 : zeroD.z = 0 := rfl
  have e3 : zeroD.s = 0 := rfl
  unfold cmpD
  rw [e, e0, e3]
  simp only [Int.pow_zero, Int.mul_one, Int.zero_mul, Int.sub_zero]
  rcases sgn_cases (d.n : Int) with ⟨h, e⟩ | ⟨h, e⟩ | ⟨h, e⟩ <;> omega
/-- Where the last point stands among so many bytes. -/
def ptL (l : List UInt8) : Nat → Int
  | 0 => -1
  | i + 1 => if l[i]? = some 46 then (i : Int) else ptL l i
theorem pt_none {l : List UInt8} : ∀ k, (∀ i, i < k → l[i]? ≠ some 46) → ptL l k = -1
  | 0, _ => rfl
  | k + 1, h => by
    unfold ptL
    rw [if_neg (h k (by omega)), pt_none k (fun i hi => h i (by omega))]
theorem pt_at {l : List UInt8} {q : Nat} (hq : l[q]? = some 46) : ∀ k, q < k → (∀ i, q < i → i < k → l[i]? ≠ some 46) → ptL l k = q
  | 0, h, _ => by omega
  | k + 1, h, hn => by
    unfold ptL
    by_cases e : q = k
    · subst e
      rw [if_pos hq]
    · rw [if_neg (hn k (by omega) (by omega)), pt_at hq k (by omega) (fun i h1 h2 => hn i h1 (by omega))]
theorem digs_no {l : List UInt8} (hl : Digs l) (i : Nat) : l[i]? ≠ some 46 := by
  intro h
  have := hl _ (List.mem_of_getElem? h)
  unfold Dig at this
  revert this
  decide
theorem pt_print (d : Dc) : ptL (printL d) (printL d).length = if d.s = 0 then -1 else ((printL d).length : Int) - 1 - d.s := by
  obtain ⟨W, P, hW, hP, _, hl, e⟩ := print_form d
  obtain ⟨S, hS, e⟩ : ∃ S : List UInt8, (∀ i : Nat, S[i]? ≠ some 46) ∧ printL d = S ++ (W ++ (if P = [] then [] else 46 :: P)) := by
    refine ⟨_, ?_, e⟩
    intro i
    split
    · rcases i with _ | i
      · decide
      · simp
    · simp
  by_cases hP0 : P = []
  · subst hP0
    have hs : d.s = 0 := hl.symm
    rw [if_pos hs]
    refine pt_none _ fun i _ => ?_
    rw [e, if_pos rfl, List.append_nil]
    rcases Nat.lt_or_ge i S.length with h | h
    · rw [List.getElem?_append_left h]; exact hS i
    · rw [List.getElem?_append_right h]; exact digs_no hW _
  · have hs : d.s ≠ 0 := fun h => hP0 (List.length_eq_zero_iff.1 (hl.trans h))
    rw [if_neg hs]
    rw [if_neg hP0] at e
    have hlen : (printL d).length = S.length + W.length + 1 + d.s := by
      rw [e]
      simp only [List.length_append, List.length_cons]
      omega
    have hq : (printL d)[S.length + W.length]? = some 46 := by
      rw [e, ← List.append_assoc, List.getElem?_append_right (by simp)]
      simp
    rw [pt_at hq _ (by omega) ?_]
    · omega
    · intro i h1 h2
      rw [e, ← List.append_assoc, List.getElem?_append_right (by rw [List.length_append]; omega)]
      rcases hi : i - (S ++ W).length with _ | m
      · rw [List.length_append] at hi
        omega
      · rw [List.getElem?_cons_succ]
        exact digs_no hP m
theorem print_head (d : Dc) : ∃ c t, printL d = c :: t ∧ (c = 45 ↔ d.neg = true) := by
  obtain ⟨W, P, hW, hP, hne, hl, e⟩ := print_form d
  cases hn : d.neg with
  | true =>
    rw [hn] at e
    exact ⟨45, _, e, by simp⟩
  | false =>
    rw [hn] at e
    rcases W with _ | ⟨c, t⟩
    · exact absurd rfl hne
    · refine ⟨c, _, e, ?_⟩
      have := hW c (by simp)
      unfold Dig at this
      constructor
      · rintro rfl
        revert this
        decide
      · intro h
        cases h
end Go.Proofs.YtampgimmodomoaaDoor
