/- The reader's alt: what a round does to what was read. Plain. -/
import Derived.Test.YtaaikjedagnjbaaGSeq
namespace Go.Proofs.Ytaaikjedagnjbaa
open Go Go.RowKit Go.Lib

/-- Some seqs were read: the machine M grew to M' by a part from pf to pl. -/
structure AltI (M : List St) (d : Nat) (L : List Nat) (M' : List St) (Lr : List Nat) (d' : Nat) (bad : Bool) (pf pl : Nat) : Prop where
  old : bad = false → ∀ q, q < M.length → M'[q]? = M[q]?
  len : M.length ≤ M'.length
  first : pf < M'.length
  last : pl < M'.length
  size : wt M' + 16 * Lr.length ≤ wt M + 16 * L.length + 1
  left : Lr.length ≤ L.length
  d1 : d ≤ d'
  d2 : d' ≤ 7
  no : bad = true → altR d L = none
  yes : bad = false → d' = d ∧ ∃ acc, altR d L = barR d acc Lr ∧ Frag M' M.length M'.length pf pl acc
theorem alt_start {M M1 : List St} {d d5 f l : Nat} {L L5 : List Nat} {bad : Bool} (g1 : bad = false → ∀ q, q < M.length → M1[q]? = M[q]?) (g2 : M.length ≤ M1.length) (g3 : f < M1.length) (g4 : l < M1.length) (g5 : wt M1 + 16 * L5.length + 0 ≤ wt M + 16 * L.length + 1) (g6 : L5.length ≤ L.length)
    (g7 : d ≤ d5) (g8 : d5 ≤ 7) (g9 : bad = (seqR d .eps L).isNone) (g10 : ∀ re r, seqR d .eps L = some (re, r) → d5 = d ∧ L5 = r ∧ Frag M1 M.length M1.length f l re) : AltI M d L M1 L5 d5 bad f l := by
  refine ⟨g1, g2, g3, g4, g5, g6, g7, g8, fun hb => ?_, fun hb => ?_⟩
  · rw [alt_step]
    cases ha : seqR d .eps L with
    | none => rfl
    | some p => rw [ha] at g9; rw [g9] at hb; cases hb
  · rw [alt_step]
    cases ha : seqR d .eps L with
    | none => rw [ha] at g9; rw [g9] at hb; cases hb
    | some p =>
      obtain ⟨re, r⟩ := p
      obtain ⟨e1, e2, e3⟩ := g10 re r ha
      exact ⟨e1, re, by rw [e2]; rfl, e3⟩
theorem bar_stop {d : Nat} {acc : Re} {L : List Nat} (h : hits [124] false L = false) : barR d acc L = some (acc, L) := by
  cases L with
  | nil => exact bar_nil d acc
  | cons c r =>
    have h : (!false && ([124] : List UInt8).any fun b => b.toNat == c) = false := h
    simp at h
    rw [bar_cons, if_neg (by omega)]
/-- Two seqs, a bar between. -/
def barM (M : List St) (pf pl f l : Nat) : List St := goTo (goTo ((M ++ [⟨none, none, []⟩]) ++ [⟨none, none, [pf, f]⟩]) pl M.length) l M.length
theorem barM_len (M : List St) (pf pl f l : Nat) : (barM M pf pl f l).length = M.length + 2 := by simp [barM, goTo_len]
theorem barM_wt (M : List St) (pf pl f l : Nat) : wt (barM M pf pl f l) ≤ wt M + 6 := by
  unfold barM
  have h1 := goTo_wt (goTo ((M ++ [(⟨none, none, []⟩ : St)]) ++ [⟨none, none, [pf, f]⟩]) pl M.length) l M.length
  have h2 := goTo_wt ((M ++ [(⟨none, none, []⟩ : St)]) ++ [⟨none, none, [pf, f]⟩]) pl M.length
  have h0 : wt ((M ++ [(⟨none, none, []⟩ : St)]) ++ [⟨none, none, [pf, f]⟩]) = wt M + 4 := by rw [wt_append, wt_append]; rfl
  omega
theorem barM_old {M : List St} {pf pl f l q : Nat} (hq : q < M.length) (h1 : q ≠ pl) (h2 : q ≠ l) : (barM M pf pl f l)[q]? = M[q]? := by
  unfold barM
  rw [goTo_ne h2, goTo_ne h1, List.getElem?_append_left (by rw [List.length_append]; omega), List.getElem?_append_left hq]
theorem alt_round {M M1 M2 : List St} {d : Nat} {L L1 L5 : List Nat} {d5 pf pl f l : Nat} {bad : Bool} (h : AltI M d L M1 (124 :: L1) d false pf pl) (g1 : bad = false → ∀ q, q < M1.length → M2[q]? = M1[q]?) (g2 : M1.length ≤ M2.length)
    (g5 : wt M2 + 16 * L5.length + 0 ≤ wt M1 + 16 * L1.length + 1) (g6 : L5.length ≤ L1.length) (g7 : d ≤ d5) (g8 : d5 ≤ 7) (g9 : bad = (seqR d .eps L1).isNone) (g10 : ∀ re r, seqR d .eps L1 = some (re, r) → d5 = d ∧ L5 = r ∧ Frag M2 M1.length M2.length f l re) :
    AltI M d L (barM M2 pf pl f l) L5 d5 bad (M2.length + 1) M2.length := by
  obtain ⟨-, acc, e, hf⟩ := h.yes rfl
  have hpl := hf.hl
  have hw := barM_wt M2 pf pl f l
  have hsz := h.size
  have hlen := h.len
  have hleft := h.left
  simp only [List.length_cons] at hsz hleft
  cases ha : seqR d .eps L1 with
  | none =>
    rw [ha] at g9
    have hb : bad = true := g9
    subst hb
    refine ⟨(fun hb' => by cases hb'), by rw [barM_len]; omega, by rw [barM_len]; omega, by rw [barM_len]; omega, by omega, by omega, g7, g8, fun _ => ?_, fun hb' => by cases hb'⟩
    rw [e, bar_cons, if_pos rfl, ha]; rfl
  | some p =>
    obtain ⟨re, r⟩ := p
    obtain ⟨e1, e2, e3⟩ := g10 re r ha
    have hb : bad = false := by rw [g9, ha]; rfl
    have hl := e3.hl
    refine ⟨fun _ q hq => ?_, by rw [barM_len]; omega, by rw [barM_len]; omega, by rw [barM_len]; omega, by omega, by omega, g7, g8, (fun hb' => by rw [hb] at hb'; cases hb'), fun _ => ⟨e1, .alt acc re, ?_, ?_⟩⟩
    · rw [barM_old (by omega) (by omega) (by omega), g1 hb q (by omega), h.old rfl q hq]
    · rw [e, bar_cons, if_pos rfl, ha, e2]; rfl
    · rw [barM_len]
      have hfl : Frag M2 M.length M1.length pf pl acc := hf.later (fun q _ hq => g1 hb q hq) g2
      obtain ⟨st, hs1, ⟨hs2, hs3⟩, hs4⟩ := hfl.last
      have hst : M2[pl]? = some ⟨none, none, []⟩ := by rw [hs1]; cases st; simp_all
      obtain ⟨st', ht1, ⟨ht2, ht3⟩, ht4⟩ := e3.last
      have hst' : M2[l]? = some ⟨none, none, []⟩ := by rw [ht1]; cases st'; simp_all
      have a0 : ∀ q, q < M2.length → ((M2 ++ [(⟨none, none, []⟩ : St)]) ++ [⟨none, none, [pf, f]⟩])[q]? = M2[q]? := fun q hq => by
        rw [List.getElem?_append_left (by rw [List.length_append]; omega), List.getElem?_append_left hq]
      have b1 : ((M2 ++ [(⟨none, none, []⟩ : St)]) ++ [⟨none, none, [pf, f]⟩])[pl]? = some ⟨none, none, []⟩ := by rw [a0 pl (by omega), hst]
      have b2 : ((M2 ++ [(⟨none, none, []⟩ : St)]) ++ [⟨none, none, [pf, f]⟩])[l]? = some ⟨none, none, []⟩ := by rw [a0 l (by omega), hst']
      have n1 : pl ≠ l := by omega
      refine frag_alt hfl e3 (fun q _ hq hn1 hn2 => barM_old hq hn1 hn2) ?_ ?_ ?_ ?_
      · unfold barM
        rw [goTo_ne n1]
        exact goTo_at b1
      · unfold barM
        have b3 : (goTo ((M2 ++ [(⟨none, none, []⟩ : St)]) ++ [⟨none, none, [pf, f]⟩]) pl M2.length)[l]? = some ⟨none, none, []⟩ := by rw [goTo_ne (Ne.symm n1), b2]
        exact goTo_at b3
      · unfold barM
        rw [goTo_ne (by omega), goTo_ne (by omega), List.getElem?_append_left (by simp), List.getElem?_append_right (Nat.le_refl _), Nat.sub_self]
        rfl
      · unfold barM
        rw [goTo_ne (by omega), goTo_ne (by omega), List.getElem?_append_right (by simp)]
        simp
end Go.Proofs.Ytaaikjedagnjbaa
