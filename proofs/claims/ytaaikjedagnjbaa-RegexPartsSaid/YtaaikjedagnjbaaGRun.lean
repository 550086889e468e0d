/- The sets that ends goes through are what a machine reaches at each place. Plain. -/
import Derived.Test.YtaaikjedagnjbaaGSim
namespace Go.Proofs.Ytaaikjedagnjbaa
open Go Go.Lib

theorem run_le {M : List St} {s : List Nat} {k : Nat} {a b : Nat × Nat} (h : Run M s k a b) : a.2 ≤ b.2 := by
  induction h with
  | nil c => exact Nat.le_refl _
  | cons e r ih =>
    cases e with
    | eps => exact ih
    | take => exact Nat.le_trans (Nat.le_succ _) ih
theorem reach_run {M : List St} {s : List Nat} {i q q' : Nat} (h : Reach M i s.length q q') : ∃ k, Run M s k (q, i) (q', i) := by
  induction h with
  | refl => exact ⟨0, .nil _⟩
  | step _ e ih =>
    obtain ⟨k, hk⟩ := ih
    obtain ⟨st, h1, h2, h3, h4⟩ := e
    exact hk.snoc (.eps h1 h2 h3 h4)
theorem run_reach {M : List St} {s : List Nat} {k : Nat} {a b : Nat × Nat} (h : Run M s k a b) : a.2 = b.2 → Reach M a.2 s.length a.1 b.1 := by
  induction h with
  | nil c => exact fun _ => .refl
  | cons e r ih =>
    intro heq
    cases e with
    | eps h1 h2 h3 h4 => exact .from ⟨_, h1, h2, h3, h4⟩ (ih heq)
    | take h1 h2 h3 h4 h5 =>
      have := run_le r
      dsimp only at this heq
      omega
/-- What a state that is there at a place takes, and where it goes on then. -/
def Takes (M : List St) (c i q : Nat) : Prop := ∃ st f, M[i]? = some st ∧ st.tk = some f ∧ f c = true ∧ st.nx[0]? = some q
theorem run_split {M : List St} {s : List Nat} {k : Nat} {a b : Nat × Nat} (h : Run M s k a b) : ∀ j, a.2 ≤ j → b.2 = j + 1 → ∃ k' p c q1, Run M s k' a (p, j) ∧ s[j]? = some c ∧ Takes M c p q1 ∧ Reach M (j + 1) s.length q1 b.1 := by
  induction h with
  | nil c => intro j h1 h2; omega
  | cons e r ih =>
    intro j h1 h2
    cases e with
    | eps a1 a2 a3 a4 =>
      obtain ⟨k', p, c, q1, x1, x2, x3, x4⟩ := ih j h1 h2
      exact ⟨k' + 1, p, c, q1, .cons (.eps a1 a2 a3 a4) x1, x2, x3, x4⟩
    | take a1 a2 a3 a4 a5 =>
      rename_i q i q' c st f
      dsimp only at h1
      by_cases hij : i = j
      · subst hij
        have hr := run_reach r h2.symm
        exact ⟨0, _, _, _, .nil _, a3, ⟨_, _, a1, a2, a4, a5⟩, hr⟩
      · obtain ⟨k', p, c', q1, x1, x2, x3, x4⟩ := ih j (by dsimp only; omega) h2
        exact ⟨k' + 1, p, c', q1, .cons (.take a1 a2 a3 a4 a5) x1, x2, x3, x4⟩
/-- The set at a place. -/
def NowAt (M : List St) (s : List Nat) (f from_ at_ : Nat) (B : List Bool) : Prop := B.length = M.length ∧ ∀ q : Nat, B[q]? = some true ↔ ∃ k, Run M s k (f, from_) (q, at_)
theorem now_start {M : List St} {s : List Nat} {f from_ : Nat} {B : List Bool} (h : Spr M from_ s.length (List.replicate M.length false) f B) : NowAt M s f from_ from_ B := by
  refine ⟨h.len.trans List.length_replicate, fun q => ?_⟩
  rw [spr_all h q]
  exact ⟨reach_run, fun ⟨k, hk⟩ => run_reach hk rfl⟩
/-- The next set, while the states are gone through. -/
def NextAt (M : List St) (at_ n c : Nat) (B : List Bool) (i : Nat) (Bn : List Bool) : Prop := Bn.length = M.length ∧ ∀ q : Nat, Bn[q]? = some true ↔ ∃ i' q1, i' < i ∧ B[i']? = some true ∧ Takes M c i' q1 ∧ Reach M (at_ + 1) n q1 q
theorem next_start (M : List St) (at_ n c : Nat) (B : List Bool) : NextAt M at_ n c B 0 (List.replicate M.length false) := by
  refine ⟨List.length_replicate, fun q => ?_⟩
  constructor
  · intro h
    rw [List.getElem?_replicate] at h
    split at h <;> cases h
  · rintro ⟨i', _, h, _⟩
    exact absurd h (Nat.not_lt_zero _)
/-- A state that is not there, or takes nothing. -/
theorem next_skip {M : List St} {at_ n c i : Nat} {B Bn : List Bool} (h : NextAt M at_ n c B i Bn) (hno : ∀ q1, B[i]? = some true → ¬ Takes M c i q1) : NextAt M at_ n c B (i + 1) Bn := by
  refine ⟨h.1, fun q => ?_⟩
  rw [h.2 q]
  constructor
  · rintro ⟨i', q1, h1, h2⟩
    exact ⟨i', q1, by omega, h2⟩
  · rintro ⟨i', q1, h1, h2, h3, h4⟩
    rcases Nat.lt_or_ge i' i with h5 | h5
    · exact ⟨i', q1, h5, h2, h3, h4⟩
    · obtain rfl : i' = i := by omega
      exact absurd h3 (hno q1 h2)
theorem takes_one {M : List St} {c i q q' : Nat} (h : Takes M c i q) (h' : Takes M c i q') : q = q' := by
  obtain ⟨st, f, a1, a2, a3, a4⟩ := h
  obtain ⟨st', f', b1, b2, b3, b4⟩ := h'
  rw [a1] at b1
  injection b1 with b1
  subst b1
  rw [a4] at b4
  injection b4
theorem next_take {M : List St} {at_ n c i q1 : Nat} {B Bn B' : List Bool} (h : NextAt M at_ n c B i Bn) (hi : B[i]? = some true) (ht : Takes M c i q1) (s : Spr M (at_ + 1) n Bn q1 B') : NextAt M at_ n c B (i + 1) B' := by
  refine ⟨s.len.trans h.1, fun q => ?_⟩
  constructor
  · intro hq
    rcases s.sound q hq with h1 | h1
    · obtain ⟨i', q2, h2, h3⟩ := (h.2 q).1 h1
      exact ⟨i', q2, by omega, h3⟩
    · exact ⟨i, q1, by omega, hi, ht, h1⟩
  · rintro ⟨i', q2, h1, h2, h3, h4⟩
    have old : ∀ q, Bn[q]? = some true → B'[q]? = some true := s.mono
    rcases Nat.lt_or_ge i' i with h5 | h5
    · exact old q ((h.2 q).2 ⟨i', q2, h5, h2, h3, h4⟩)
    · obtain rfl : i' = i := by omega
      obtain rfl := takes_one h3 ht
      clear h5
      induction h4 with
      | refl => exact s.has
      | step hr e ih =>
        rcases s.closed _ ih with h6 | h6
        · obtain ⟨j, q3, x1, x2, x3, x4⟩ := (h.2 _).1 h6
          exact old _ ((h.2 _).2 ⟨j, q3, x1, x2, x3, .step x4 e⟩)
        · exact h6 _ e
theorem now_next {M : List St} {s : List Nat} {f from_ at_ c : Nat} {B Bn : List Bool} (hB : NowAt M s f from_ at_ B) (hc : s[at_]? = some c) (hle : from_ ≤ at_) (h : NextAt M at_ s.length c B M.length Bn) : NowAt M s f from_ (at_ + 1) Bn := by
  refine ⟨h.1, fun q => ?_⟩
  rw [h.2 q]
  constructor
  · rintro ⟨i, q1, h1, h2, h3, h4⟩
    obtain ⟨k, hk⟩ := (hB.2 i).1 h2
    obtain ⟨st, g, a1, a2, a3, a4⟩ := h3
    obtain ⟨k2, hk2⟩ := hk.snoc (.take a1 a2 hc a3 a4)
    obtain ⟨k3, hk3⟩ := reach_run h4
    exact hk2.trans hk3
  · rintro ⟨k, hk⟩
    obtain ⟨k', p, c', q1, x1, x2, x3, x4⟩ := run_split hk at_ hle rfl
    rw [hc] at x2
    injection x2 with x2
    subst x2
    obtain ⟨st, g, a1, a2, a3, a4⟩ := x3
    exact ⟨p, q1, (List.getElem?_eq_some_iff.1 a1).1, (hB.2 p).2 ⟨k', x1⟩, ⟨st, g, a1, a2, a3, a4⟩, x4⟩
/-- Which of the places a..a+n-1 are told. -/
def told (h : Nat → Bool) (a n : Nat) : List Nat := (List.range' a n).filter h
theorem told_succ (h : Nat → Bool) (a n : Nat) : told h a (n + 1) = told h a n ++ (if h (a + n) then [a + n] else []) := by
  unfold told
  rw [List.range'_concat, List.filter_append, Nat.one_mul]
  congr 1
  simp only [List.filter_cons, List.filter_nil]
end Go.Proofs.Ytaaikjedagnjbaa
