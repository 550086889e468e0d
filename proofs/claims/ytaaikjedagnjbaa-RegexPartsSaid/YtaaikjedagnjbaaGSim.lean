/- States reached at once: what spread does to a set, and what that comes to. Plain. -/
import Derived.Test.YtaaikjedagnjbaaGLaw
namespace Go.Proofs.Ytaaikjedagnjbaa
open Go Go.Lib

/-- A step at once, at a place of n. -/
def Ep (M : List St) (at_ n q q' : Nat) : Prop := ∃ st, M[q]? = some st ∧ st.tk = none ∧ (∀ g, st.wh = some g → g at_ n = true) ∧ q' ∈ st.nx
inductive Reach (M : List St) (at_ n i : Nat) : Nat → Prop where
  | refl : Reach M at_ n i i
  | step {q q' : Nat} (h : Reach M at_ n i q) (e : Ep M at_ n q q') : Reach M at_ n i q'
theorem Reach.from {M : List St} {at_ n i j q : Nat} (e : Ep M at_ n i j) (h : Reach M at_ n j q) : Reach M at_ n i q := by
  induction h with
  | refl => exact .step .refl e
  | step _ e2 ih => exact .step ih e2
/-- B' is B and what is reached from i. -/
structure Spr (M : List St) (at_ n : Nat) (B : List Bool) (i : Nat) (B' : List Bool) : Prop where
  len : B'.length = B.length
  mono : ∀ q : Nat, B[q]? = some true → B'[q]? = some true
  has : B'[i]? = some true
  sound : ∀ q : Nat, B'[q]? = some true → B[q]? = some true ∨ Reach M at_ n i q
  closed : ∀ q : Nat, B'[q]? = some true → B[q]? = some true ∨ ∀ q', Ep M at_ n q q' → B'[q']? = some true
/-- The same while the states behind i are gone through. -/
structure SprJ (M : List St) (at_ n : Nat) (B1 : List Bool) (i : Nat) (l : List Nat) (B' : List Bool) : Prop where
  len : B'.length = B1.length
  mono : ∀ q : Nat, B1[q]? = some true → B'[q]? = some true
  all : ∀ k ∈ l, B'[k]? = some true
  sound : ∀ q : Nat, B'[q]? = some true → B1[q]? = some true ∨ Reach M at_ n i q
  closed : ∀ q : Nat, B'[q]? = some true → B1[q]? = some true ∨ ∀ q', Ep M at_ n q q' → B'[q']? = some true
theorem SprJ.start (M : List St) (at_ n : Nat) (B1 : List Bool) (i : Nat) : SprJ M at_ n B1 i [] B1 :=
  ⟨rfl, fun _ h => h, by simp, fun _ h => .inl h, fun _ h => .inl h⟩
theorem SprJ.next {M : List St} {at_ n : Nat} {B1 : List Bool} {i k : Nat} {l : List Nat} {B2 B3 : List Bool} (h : SprJ M at_ n B1 i l B2) (e : Ep M at_ n i k) (s : Spr M at_ n B2 k B3) : SprJ M at_ n B1 i (l ++ [k]) B3 := by
  refine ⟨s.len.trans h.len, fun q hq => s.mono q (h.mono q hq), fun x hx => ?_, fun q hq => ?_, fun q hq => ?_⟩
  · rcases List.mem_append.1 hx with hx | hx
    · exact s.mono x (h.all x hx)
    · rw [List.mem_singleton.1 hx]; exact s.has
  · rcases s.sound q hq with h1 | h1
    · exact h.sound q h1
    · exact .inr (.from e h1)
  · rcases s.closed q hq with h1 | h1
    · rcases h.closed q h1 with h2 | h2
      · exact .inl h2
      · exact .inr fun q' e' => s.mono q' (h2 q' e')
    · exact .inr h1
theorem set_true {B : List Bool} {i : Nat} (hi : i < B.length) : (B.set i true)[i]? = some true := by rw [List.getElem?_set, if_pos rfl, if_pos hi]
theorem set_old {B : List Bool} {i q : Nat} (h : B[q]? = some true) : (B.set i true)[q]? = some true := by
  rw [List.getElem?_set]
  split
  · rename_i e
    subst e
    rw [if_pos (List.getElem?_eq_some_iff.1 h).1]
  · exact h
theorem set_back {B : List Bool} {i q : Nat} (h : (B.set i true)[q]? = some true) : q = i ∨ B[q]? = some true := by
  rw [List.getElem?_set] at h
  split at h
  · rename_i e; exact .inl e.symm
  · exact .inr h
/-- i is there already. -/
theorem spr_there {M : List St} {at_ n : Nat} {B : List Bool} {i : Nat} (h : B[i]? = some true) : Spr M at_ n B i B := ⟨rfl, fun _ h => h, h, fun _ h => .inl h, fun _ h => .inl h⟩
/-- Nothing is reached from i. -/
theorem spr_stop {M : List St} {at_ n : Nat} {B : List Bool} {i : Nat} (hi : i < B.length) (h : ∀ q', ¬ Ep M at_ n i q') : Spr M at_ n B i (B.set i true) :=
  ⟨List.length_set, fun _ h => set_old h, set_true hi, fun q hq => by
    rcases set_back hq with h1 | h1
    · rw [h1]; exact .inr .refl
    · exact .inl h1, fun q hq => by
    rcases set_back hq with h1 | h1
    · rw [h1]; exact .inr fun q' e => absurd e (h q')
    · exact .inl h1⟩
theorem spr_end {M : List St} {at_ n : Nat} {B B' : List Bool} {i : Nat} {st : St} (hi : i < B.length) (hst : M[i]? = some st) (h : SprJ M at_ n (B.set i true) i st.nx B') : Spr M at_ n B i B' := by
  refine ⟨h.len.trans List.length_set, fun q hq => h.mono q (set_old hq), h.mono i (set_true hi), fun q hq => ?_, fun q hq => ?_⟩
  · rcases h.sound q hq with h1 | h1
    · rcases set_back h1 with h2 | h2
      · rw [h2]; exact .inr .refl
      · exact .inl h2
    · exact .inr h1
  · rcases h.closed q hq with h1 | h1
    · rcases set_back h1 with h2 | h2
      · refine .inr fun q' e => ?_
        rw [h2] at e
        obtain ⟨st', a1, a2, a3, a4⟩ := e
        rw [hst] at a1
        injection a1 with a1
        subst a1
        exact h.all q' a4
      · exact .inl h2
    · exact .inr h1
/-- How many are not there. -/
def lacks (B : List Bool) : Nat := (B.filter fun b => !b).length
theorem lacks_mono : ∀ (B B' : List Bool), B'.length = B.length → (∀ q : Nat, B[q]? = some true → B'[q]? = some true) → lacks B' ≤ lacks B
  | [], [], _, _ => Nat.le_refl _
  | [], _ :: _, h, _ => by simp at h
  | _ :: _, [], h, _ => by simp at h
  | b :: B, b' :: B', h, hm => by
    have ih := lacks_mono B B' (by simpa using h) (fun q hq => by have := hm (q + 1) (by simpa using hq); simpa using this)
    have h0 := hm 0
    unfold lacks at *
    cases b <;> cases b' <;> simp at h0 ⊢ <;> omega
theorem lacks_set : ∀ (B : List Bool) (i : Nat), B[i]? = some false → lacks (B.set i true) < lacks B
  | [], _, h => by simp at h
  | b :: B, 0, h => by
    have h : b = false := by simpa using h
    subst h
    simp [lacks]
  | b :: B, i + 1, h => by
    have ih := lacks_set B i (by simpa using h)
    unfold lacks at *
    cases b <;> simp <;> omega
/-- Nothing is in it but what is reached, and all of that. -/
theorem spr_all {M : List St} {at_ n : Nat} {B' : List Bool} {i k : Nat} (h : Spr M at_ n (List.replicate k false) i B') (q : Nat) : B'[q]? = some true ↔ Reach M at_ n i q := by
  have hf : ∀ q : Nat, ¬ (List.replicate k false)[q]? = some true := fun q hq => by
    rw [List.getElem?_replicate] at hq
    split at hq <;> cases hq
  constructor
  · intro hq
    rcases h.sound q hq with h1 | h1
    · exact absurd h1 (hf q)
    · exact h1
  · intro hr
    induction hr with
    | refl => exact h.has
    | step _ e ih =>
      rcases h.closed _ ih with h1 | h1
      · exact absurd h1 (hf _)
      · exact h1 _ e
end Go.Proofs.Ytaaikjedagnjbaa
