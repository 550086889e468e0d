/- A machine's size; a state told to go on to one more. -/
import Derived.Test.YtaaikjedagnjbaaGLaw
namespace Go.Proofs.Ytaaikjedagnjbaa
open Go Go.Lib

def wt (M : List St) : Nat := (M.map fun st => 1 + st.nx.length).sum
theorem wt_append (M N : List St) : wt (M ++ N) = wt M + wt N := by simp [wt]
theorem wt_len : ∀ M : List St, M.length ≤ wt M
  | [] => Nat.le_refl _
  | st :: r => by
    have := wt_len r
    simp only [wt, List.map_cons, List.sum_cons, List.length_cons] at *
    omega
theorem wt_nx : ∀ (M : List St) (i : Nat) (st : St), M[i]? = some st → st.nx.length ≤ wt M
  | [], _, _, h => by cases h
  | d :: r, 0, st, h => by
    injection h with h
    subst h
    simp only [wt, List.map_cons, List.sum_cons]
    omega
  | d :: r, i + 1, st, h => by
    have := wt_nx r i st h
    simp only [wt, List.map_cons, List.sum_cons] at *
    omega
theorem wt_set : ∀ (M : List St) (i : Nat) (st st' : St), M[i]? = some st → wt (M.set i st') + st.nx.length = wt M + st'.nx.length
  | [], _, _, _, h => by cases h
  | d :: r, 0, st, st', h => by
    injection h with h
    subst h
    simp only [wt, List.set_cons_zero, List.map_cons, List.sum_cons]
    omega
  | d :: r, i + 1, st, st', h => by
    have := wt_set r i st st' h
    simp only [wt, List.set_cons_succ, List.map_cons, List.sum_cons] at *
    omega
/-- State i goes on to k, too. -/
def goTo (M : List St) (i k : Nat) : List St :=
  match M[i]? with
  | none => M
  | some st => M.set i { st with nx := st.nx ++ [k] }
theorem goTo_eq {M : List St} {i k : Nat} {st : St} (h : M[i]? = some st) : goTo M i k = M.set i { st with nx := st.nx ++ [k] } := by
  unfold goTo; rw [h]
theorem goTo_len (M : List St) (i k : Nat) : (goTo M i k).length = M.length := by
  unfold goTo
  split
  · rfl
  · exact List.length_set
theorem goTo_wt (M : List St) (i k : Nat) : wt (goTo M i k) ≤ wt M + 1 := by
  unfold goTo
  split
  · omega
  · rename_i st h
    have := wt_set M i st { st with nx := st.nx ++ [k] } h
    simp only [List.length_append, List.length_singleton] at this
    omega
theorem goTo_at {M : List St} {i k : Nat} {st : St} (h : M[i]? = some st) : (goTo M i k)[i]? = some { st with nx := st.nx ++ [k] } := by
  rw [goTo_eq h, List.getElem?_set, if_pos rfl, if_pos (List.getElem?_eq_some_iff.1 h).1]
theorem goTo_ne {M : List St} {i k q : Nat} (h : q ≠ i) : (goTo M i k)[q]? = M[q]? := by
  unfold goTo
  split
  · rfl
  · rw [List.getElem?_set, if_neg (Ne.symm h)]
/-- A part some times: sign c. -/
def manyM (M : List St) (f l c : Nat) : List St :=
  let M2 := goTo (M ++ [⟨none, none, []⟩, ⟨none, none, [f]⟩]) l M.length
  let M3 := if c = 63 then M2 else goTo M2 l f
  if c = 43 then M3 else goTo M3 (M.length + 1) M.length
def signOf (c : Nat) : Sign := if c = 63 then .opt else if c = 43 then .plus else .star
theorem manyM_len (M : List St) (f l c : Nat) : (manyM M f l c).length = M.length + 2 := by
  unfold manyM
  simp only
  split <;> split <;> simp [goTo_len]
theorem manyM_wt (M : List St) (f l c : Nat) : wt (manyM M f l c) ≤ wt M + 6 := by
  have h0 : wt (M ++ [(⟨none, none, []⟩ : St), ⟨none, none, [f]⟩]) = wt M + 3 := by rw [wt_append]; rfl
  unfold manyM
  simp only
  have h1 := goTo_wt (M ++ [(⟨none, none, []⟩ : St), ⟨none, none, [f]⟩]) l M.length
  have h2 := goTo_wt (goTo (M ++ [(⟨none, none, []⟩ : St), ⟨none, none, [f]⟩]) l M.length) l f
  have h3 := goTo_wt (goTo (M ++ [(⟨none, none, []⟩ : St), ⟨none, none, [f]⟩]) l M.length) (M.length + 1) M.length
  have h4 := goTo_wt (goTo (goTo (M ++ [(⟨none, none, []⟩ : St), ⟨none, none, [f]⟩]) l M.length) l f) (M.length + 1) M.length
  split <;> split <;> omega
theorem manyM_old {M : List St} {f l c q : Nat} (hq : q < M.length) (hl : q ≠ l) : (manyM M f l c)[q]? = M[q]? := by
  unfold manyM
  simp only
  have h1 : (M ++ [(⟨none, none, []⟩ : St), ⟨none, none, [f]⟩])[q]? = M[q]? := List.getElem?_append_left hq
  have h2 : q ≠ M.length + 1 := by omega
  split <;> split <;> simp only [goTo_ne hl, goTo_ne h2, h1]
theorem manyM_frag {M : List St} {lo f l c : Nat} {a : Re} (ha : Frag M lo M.length f l a) : Frag (manyM M f l c) lo (M.length + 2) (M.length + 1) M.length ((signOf c).re a) := by
  have a1 := ha.hf
  have a2 := ha.hl
  obtain ⟨st, hs1, ⟨hs2, hs3⟩, hs4⟩ := ha.last
  have hst : M[l]? = some ⟨none, none, []⟩ := by rw [hs1]; cases st; simp_all
  have h0 : (M ++ [(⟨none, none, []⟩ : St), ⟨none, none, [f]⟩])[l]? = some ⟨none, none, []⟩ := by rw [List.getElem?_append_left a2.2]; exact hst
  have e0 : (M ++ [(⟨none, none, []⟩ : St), ⟨none, none, [f]⟩])[M.length]? = some ⟨none, none, []⟩ := by rw [List.getElem?_append_right (Nat.le_refl _), Nat.sub_self]; rfl
  have e1 : (M ++ [(⟨none, none, []⟩ : St), ⟨none, none, [f]⟩])[M.length + 1]? = some ⟨none, none, [f]⟩ := by rw [List.getElem?_append_right (by omega), show M.length + 1 - M.length = 1 by omega]; rfl
  have n1 : M.length ≠ l := by omega
  have n2 : M.length + 1 ≠ l := by omega
  have n3 : M.length ≠ M.length + 1 := by omega
  have n4 : l ≠ M.length + 1 := by omega
  have g1 := goTo_at (k := M.length) h0
  have g2 := goTo_at (k := f) g1
  have f1 : ∀ k, (goTo (M ++ [(⟨none, none, []⟩ : St), ⟨none, none, [f]⟩]) l k)[M.length + 1]? = some ⟨none, none, [f]⟩ := fun k => by rw [goTo_ne n2, e1]
  have f2 : ∀ k k', (goTo (goTo (M ++ [(⟨none, none, []⟩ : St), ⟨none, none, [f]⟩]) l k) l k')[M.length + 1]? = some ⟨none, none, [f]⟩ := fun k k' => by rw [goTo_ne n2, f1]
  have p1 := fun k => goTo_at (k := M.length) (f1 k)
  have p2 := fun k k' => goTo_at (k := M.length) (f2 k k')
  refine frag_many (signOf c) ha (fun q h1 h2 h3 => manyM_old h2 h3) ?_ ?_ ?_
  · unfold manyM signOf
    by_cases h63 : c = 63
    · subst h63
      simp only [if_true, if_neg (by decide : ¬ 63 = 43)]
      rw [goTo_ne n4]
      exact g1
    · by_cases h43 : c = 43
      · subst h43
        simp only [if_neg h63, if_true]
        exact g2
      · simp only [if_neg h63, if_neg h43]
        rw [goTo_ne n4]
        exact g2
  · unfold manyM
    simp only
    split <;> split <;> simp only [goTo_ne n1, goTo_ne n3, e0]
  · unfold manyM signOf
    by_cases h63 : c = 63
    · subst h63
      simp only [if_true, if_neg (by decide : ¬ 63 = 43)]
      exact p1 _
    · by_cases h43 : c = 43
      · subst h43
        simp only [if_neg h63, if_true]
        exact f2 _ _
      · simp only [if_neg h63, if_neg h43]
        exact p2 _ _
end Go.Proofs.Ytaaikjedagnjbaa
