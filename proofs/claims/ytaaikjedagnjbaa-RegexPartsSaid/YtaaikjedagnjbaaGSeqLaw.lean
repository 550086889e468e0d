/- The reader's seq: what a round does to what was read. Plain. -/
import Derived.Test.YtaaikjedagnjbaaGAtom
namespace Go.Proofs.Ytaaikjedagnjbaa
open Go Go.RowKit Go.Lib

/-- Some atoms were read: the machine M grew to M' by a part from M.length to pl. -/
structure SeqI (M : List St) (d : Nat) (L : List Nat) (M' : List St) (Lr : List Nat) (d' : Nat) (bad : Bool) (pl : Nat) : Prop where
  old : bad = false → ∀ q, q < M.length → M'[q]? = M[q]?
  len : M.length < M'.length
  last : pl < M'.length
  size : wt M' + 16 * Lr.length ≤ wt M + 16 * L.length + 1
  left : Lr.length ≤ L.length
  d1 : d ≤ d'
  d2 : d' ≤ 7
  no : bad = true → seqR d .eps L = none
  yes : bad = false → d' = d ∧ ∃ acc, seqR d .eps L = seqR d acc Lr ∧ Frag M' M.length M'.length M.length pl acc
theorem seq_start (M : List St) (d : Nat) (L : List Nat) (hd : d ≤ 7) : SeqI M d L (M ++ [⟨none, none, []⟩]) L d false M.length := by
  have hl : (M ++ [(⟨none, none, []⟩ : St)]).length = M.length + 1 := by simp
  refine ⟨fun _ q hq => List.getElem?_append_left hq, by omega, by omega, ?_, Nat.le_refl _, Nat.le_refl _, hd, (fun e => by cases e), fun _ => ⟨rfl, .eps, rfl, ?_⟩⟩
  · rw [wt_append]
    show wt M + 1 + _ ≤ _
    omega
  · rw [hl]
    exact frag_eps (by rw [List.getElem?_append_right (Nat.le_refl _), Nat.sub_self]; rfl)
/-- A part was read behind, and the old last state goes on to it. -/
theorem seq_join {M M1 M3 : List St} {d : Nat} {L Lr L6 : List Nat} {d5 pl f l : Nat} {bad : Bool} (h : SeqI M d L M1 Lr d false pl) (h1 : bad = false → ∀ q, q < M1.length → M3[q]? = M1[q]?) (h2 : M1.length ≤ M3.length) (hl : l < M3.length)
    (hw : wt M3 + 16 * L6.length + 1 ≤ wt M1 + 16 * Lr.length) (hL : L6.length ≤ Lr.length) (h3 : d ≤ d5) (h4 : d5 ≤ 7) (hb : bad = true → ∀ acc, seqR d acc Lr = none)
    (hy : bad = false → d5 = d ∧ ∃ re, (∀ acc, seqR d acc Lr = seqR d (.seq acc re) L6) ∧ Frag M3 M1.length M3.length f l re) : SeqI M d L (goTo M3 pl f) L6 d5 bad l := by
  obtain ⟨-, acc, e, hf⟩ := h.yes rfl
  have hpl := hf.hl
  have hw2 := goTo_wt M3 pl f
  have hsz := h.size
  have hlen := h.len
  have hleft := h.left
  refine ⟨fun hb' q hq => ?_, by rw [goTo_len]; omega, by rw [goTo_len]; exact hl, by omega, by omega, h3, h4, fun hb' => ?_, fun hb' => ?_⟩
  · rw [goTo_ne (by omega), h1 hb' q (by omega), h.old rfl q hq]
  · rw [e]; exact hb hb' acc
  · obtain ⟨e5, re, hre, hf3⟩ := hy hb'
    refine ⟨e5, .seq acc re, by rw [e, hre acc], ?_⟩
    rw [goTo_len]
    have hfl : Frag M3 M.length M1.length M.length pl acc := hf.later (fun q _ hq => h1 hb' q hq) h2
    refine frag_seq hfl hf3 (fun q _ _ hne => goTo_ne hne) ?_ (by rw [goTo_len]; exact Nat.le_refl _)
    obtain ⟨st, hs1, ⟨hs2, hs3⟩, hs4⟩ := hfl.last
    have hst : M3[pl]? = some ⟨none, none, []⟩ := by rw [hs1]; cases st; simp_all
    exact goTo_at hst
theorem seq_stop {d : Nat} {acc : Re} {L : List Nat} (h : L = [] ∨ ∃ c r, L = c :: r ∧ (c = 124 ∨ c = 41)) : seqR d acc L = some (acc, L) := by
  rcases h with rfl | ⟨c, r, rfl, hc⟩
  · exact seq_nil d acc
  · rw [seq_cons, if_pos hc]
theorem seq_bad {d c : Nat} {r : List Nat} (hc : ¬ (c = 124 ∨ c = 41)) (h : atomR d (c :: r) = none) (acc : Re) : seqR d acc (c :: r) = none := by
  rw [seq_cons, if_neg hc, h]; rfl
theorem seq_go {d c : Nat} {r L5 : List Nat} {re : Re} (hc : ¬ (c = 124 ∨ c = 41)) (h : atomR d (c :: r) = some (re, L5)) (acc : Re) : seqR d acc (c :: r) = seqR d (.seq acc (signR re L5).1) (signR re L5).2 := by
  rw [seq_cons, if_neg hc, h]; rfl
/-- No sign behind. -/
theorem seq_step0 {M M1 M2 : List St} {d : Nat} {L r L5 : List Nat} {c d5 pl f l : Nat} {bad : Bool} (h : SeqI M d L M1 (c :: r) d false pl) (hc : ¬ (c = 124 ∨ c = 41)) (g1 : bad = false → ∀ q, q < M1.length → M2[q]? = M1[q]?) (g2 : M1.length ≤ M2.length) (g4 : l < M2.length)
    (g5 : wt M2 + 16 * L5.length + 13 ≤ wt M1 + 16 * (c :: r).length + 0) (g6 : L5.length ≤ (c :: r).length) (g7 : d ≤ d5) (g8 : d5 ≤ 7) (g9 : bad = (atomR d (c :: r)).isNone)
    (g10 : ∀ re r', atomR d (c :: r) = some (re, r') → d5 = d ∧ L5 = r' ∧ Frag M2 M1.length M2.length f l re) (hs : hits [42, 43, 63] bad L5 = false) : SeqI M d L (goTo M2 pl f) L5 d5 bad l ∧ (bad = false → L5.length < (c :: r).length) := by
  refine ⟨seq_join h g1 g2 g4 (by omega) g6 g7 g8 (fun hb => ?_) (fun hb => ?_), fun hb => ?_⟩
  · cases ha : atomR d (c :: r) with
    | none => exact seq_bad hc ha
    | some p => rw [ha] at g9; rw [g9] at hb; cases hb
  · cases ha : atomR d (c :: r) with
    | none => rw [ha] at g9; rw [g9] at hb; cases hb
    | some p =>
      obtain ⟨re, r'⟩ := p
      obtain ⟨e1, e2, e3⟩ := g10 re r' ha
      subst e2
      have hsg : signR re L5 = (re, L5) := by
        cases L5 with
        | nil => rfl
        | cons a q =>
          rw [hb] at hs
          have hs : (!false && ([42, 43, 63] : List UInt8).any fun b => b.toNat == a) = false := hs
          simp at hs
          rw [sign_cons, if_neg (by omega), if_neg (by omega), if_neg (by omega)]
      refine ⟨e1, re, fun acc => ?_, e3⟩
      rw [seq_go hc ha acc, hsg]
  · cases ha : atomR d (c :: r) with
    | none => rw [ha] at g9; rw [g9] at hb; cases hb
    | some p =>
      obtain ⟨re, r'⟩ := p
      obtain ⟨e1, e2, e3⟩ := g10 re r' ha
      rw [e2]
      exact atomR_len ha
/-- A sign behind. -/
theorem seq_step1 {M M1 M2 : List St} {d : Nat} {L r L5 : List Nat} {c s d5 pl f l : Nat} {bad : Bool} (h : SeqI M d L M1 (c :: r) d false pl) (hc : ¬ (c = 124 ∨ c = 41)) (g1 : bad = false → ∀ q, q < M1.length → M2[q]? = M1[q]?) (g2 : M1.length ≤ M2.length)
    (g5 : wt M2 + 16 * (s :: L5).length + 13 ≤ wt M1 + 16 * (c :: r).length + 0) (g6 : (s :: L5).length ≤ (c :: r).length) (g7 : d ≤ d5) (g8 : d5 ≤ 7) (g9 : bad = (atomR d (c :: r)).isNone)
    (g10 : ∀ re r', atomR d (c :: r) = some (re, r') → d5 = d ∧ s :: L5 = r' ∧ Frag M2 M1.length M2.length f l re) (hs : hits [42, 43, 63] bad (s :: L5) = true) : SeqI M d L (goTo (manyM M2 f l s) pl (M2.length + 1)) L5 d5 bad M2.length ∧ (bad = false → L5.length < (c :: r).length) := by
  have hs : (!bad && ([42, 43, 63] : List UInt8).any fun b => b.toNat == s) = true := hs
  have hb : bad = false := by cases bad; rfl; cases hs
  have hs3 : s = 42 ∨ s = 43 ∨ s = 63 := by rw [hb] at hs; simp at hs; omega
  cases ha : atomR d (c :: r) with
  | none => rw [ha] at g9; rw [g9] at hb; cases hb
  | some p =>
    obtain ⟨re, r'⟩ := p
    obtain ⟨e1, e2, e3⟩ := g10 re r' ha
    subst e2
    have hsg : signR re (s :: L5) = ((signOf s).re re, L5) := by
      rw [sign_cons]
      rcases hs3 with rfl | rfl | rfl <;> rfl
    have hl := e3.hl
    have hw := manyM_wt M2 f l s
    simp only [List.length_cons] at g5 g6
    refine ⟨seq_join h (fun _ q hq => ?_) (by rw [manyM_len]; omega) (by rw [manyM_len]; omega) (by simp only [List.length_cons]; omega) (by simp only [List.length_cons]; omega) g7 g8 (fun hb' => by rw [hb] at hb'; cases hb') (fun _ => ⟨e1, (signOf s).re re, fun acc => ?_, ?_⟩), fun _ => by simp only [List.length_cons]; omega⟩
    · rw [manyM_old (by omega) (by omega), g1 hb q hq]
    · rw [seq_go hc ha acc, hsg]
    · rw [manyM_len]
      exact manyM_frag e3
end Go.Proofs.Ytaaikjedagnjbaa
