/- Patterns: what they take of a text; machines of states, and what a part of one takes. Plain. -/
import Derived.Test.YtaaikjedagnjbaaQLaw
namespace Go.Proofs.Ytaaikjedagnjbaa
open Go Go.Lib

inductive Re where
  | eps | seq (a b : Re) | alt (a b : Re) | star (a : Re) | plus (a : Re) | opt (a : Re) | cls (f : Nat → Bool) | bol | eol
/-- What a pattern takes of a text, from a place to a place. -/
inductive Mt (s : List Nat) : Re → Nat → Nat → Prop where
  | eps (i : Nat) : Mt s .eps i i
  | seq {a b : Re} {i j k : Nat} (h1 : Mt s a i j) (h2 : Mt s b j k) : Mt s (.seq a b) i k
  | altl {a b : Re} {i j : Nat} (h : Mt s a i j) : Mt s (.alt a b) i j
  | altr {a b : Re} {i j : Nat} (h : Mt s b i j) : Mt s (.alt a b) i j
  | star0 {a : Re} (i : Nat) : Mt s (.star a) i i
  | star1 {a : Re} {i j k : Nat} (h1 : Mt s a i j) (h2 : Mt s (.star a) j k) : Mt s (.star a) i k
  | plus {a : Re} {i j k : Nat} (h1 : Mt s a i j) (h2 : Mt s (.star a) j k) : Mt s (.plus a) i k
  | opt0 {a : Re} (i : Nat) : Mt s (.opt a) i i
  | opt1 {a : Re} {i j : Nat} (h : Mt s a i j) : Mt s (.opt a) i j
  | cls {f : Nat → Bool} {i c : Nat} (h : s[i]? = some c) (hf : f c = true) : Mt s (.cls f) i (i + 1)
  | bol (i : Nat) (h : i = 0) : Mt s .bol i i
  | eol (i : Nat) (h : i = s.length) : Mt s .eol i i
/-- A state: what rune it takes; or where it goes on at once; to which states. -/
structure St where
  tk : Option (Nat → Bool)
  wh : Option (Nat → Nat → Bool)
  nx : List Nat
/-- One step: a state and a place. -/
inductive Edge (M : List St) (s : List Nat) : Nat × Nat → Nat × Nat → Prop where
  | eps {q i q' : Nat} {st : St} (h : M[q]? = some st) (ht : st.tk = none) (hw : ∀ g, st.wh = some g → g i s.length = true) (hn : q' ∈ st.nx) : Edge M s (q, i) (q', i)
  | take {q i q' c : Nat} {st : St} {f : Nat → Bool} (h : M[q]? = some st) (ht : st.tk = some f) (hc : s[i]? = some c) (hf : f c = true) (hn : st.nx[0]? = some q') : Edge M s (q, i) (q', i + 1)
/-- Some steps. -/
inductive Run (M : List St) (s : List Nat) : Nat → Nat × Nat → Nat × Nat → Prop where
  | nil (c : Nat × Nat) : Run M s 0 c c
  | cons {n : Nat} {c c1 c2 : Nat × Nat} (h : Edge M s c c1) (r : Run M s n c1 c2) : Run M s (n + 1) c c2
variable {M M' : List St} {s : List Nat}
theorem Run.trans {n m : Nat} {a b c : Nat × Nat} (h : Run M s n a b) (h' : Run M s m b c) : ∃ k, Run M s k a c := by
  induction h with
  | nil c => exact ⟨m, h'⟩
  | cons e r ih =>
    obtain ⟨k, hk⟩ := ih h'
    exact ⟨k + 1, .cons e hk⟩
theorem Run.snoc {n : Nat} {a b c : Nat × Nat} (h : Run M s n a b) (e : Edge M s b c) : ∃ k, Run M s k a c := h.trans (.cons e (.nil c))
/-- A state that goes on at once, wherever. -/
def St.plain (st : St) : Prop := st.tk = none ∧ st.wh = none
/-- From a plain state: to one of those behind it, or it is the end. -/
theorem Run.plain {n q i : Nat} {b : Nat × Nat} {st : St} (h : Run M s n (q, i) b) (hq : M[q]? = some st) (hp : st.plain) : b = (q, i) ∨ ∃ q' m, q' ∈ st.nx ∧ n = m + 1 ∧ Run M s m (q', i) b := by
  cases h with
  | nil => exact .inl rfl
  | cons e r =>
    refine .inr ?_
    cases e with
    | eps h ht hw hn =>
      rw [hq] at h
      injection h with h
      subst h
      exact ⟨_, _, hn, rfl, r⟩
    | take h ht hc hf hn =>
      rw [hq] at h
      injection h with h
      subst h
      rw [hp.1] at ht
      cases ht
theorem Run.go {n q i q' : Nat} {b : Nat × Nat} {st : St} (hq : M[q]? = some st) (hp : st.plain) (hn : q' ∈ st.nx) (h : Run M s n (q', i) b) : Run M s (n + 1) (q, i) b :=
  .cons (.eps hq hp.1 (fun g hg => by rw [hp.2] at hg; cases hg) hn) h
/-- Another machine has the same part, but for what lies behind its last state. -/
structure Has (M M' : List St) (lo hi l : Nat) : Prop where
  at_ : ∀ q, lo ≤ q → q < hi → q ≠ l → M'[q]? = M[q]?
  last : ∃ st, M'[l]? = some st ∧ st.plain
/-- A part of a machine, from a first state to a last one: what it takes. -/
structure Frag (M : List St) (lo hi f l : Nat) (r : Re) : Prop where
  hf : lo ≤ f ∧ f < hi
  hl : lo ≤ l ∧ l < hi
  top : hi ≤ M.length
  last : ∃ st, M[l]? = some st ∧ st.plain ∧ st.nx = []
  to : ∀ M' s, Has M M' lo hi l → ∀ i j, Mt s r i j → ∃ n, Run M' s n (f, i) (l, j)
  from_ : ∀ M' s, Has M M' lo hi l → ∀ n i q j, Run M' s n (f, i) (q, j) → (lo ≤ q ∧ q < hi ∧ q ≠ l) ∨ ∃ k n', n' ≤ n ∧ Mt s r i k ∧ Run M' s n' (l, k) (q, j)
  wf : ∀ q st, lo ≤ q → q < hi → M[q]? = some st → (∀ k ∈ st.nx, lo ≤ k ∧ k < hi) ∧ (st.tk ≠ none → st.nx ≠ [])
theorem Has.trans {M'' : List St} {lo hi l lo' hi' l' : Nat} (h : Has M' M'' lo' hi' l') (h1 : ∀ q, lo ≤ q → q < hi → q ≠ l → M'[q]? = M[q]? ∧ lo' ≤ q ∧ q < hi' ∧ q ≠ l')
    (h2 : ∃ st, M''[l]? = some st ∧ st.plain) : Has M M'' lo hi l :=
  ⟨fun q a b c => by
    obtain ⟨e, x, y, z⟩ := h1 q a b c
    rw [h.at_ q x y z, e], h2⟩
theorem Frag.later {lo hi f l : Nat} {r : Re} (h : Frag M lo hi f l r) (hM : ∀ q, lo ≤ q → q < hi → M'[q]? = M[q]?) (hh : hi ≤ M'.length) : Frag M' lo hi f l r := by
  have hl := h.hl
  refine ⟨h.hf, h.hl, hh, ?_, fun M2 s h2 => h.to M2 s (h2.trans (fun q a b c => ⟨hM q a b, a, b, c⟩) h2.last), fun M2 s h2 => h.from_ M2 s (h2.trans (fun q a b c => ⟨hM q a b, a, b, c⟩) h2.last), fun q st a b hst => h.wf q st a b (by rw [← hM q a b]; exact hst)⟩
  obtain ⟨st, h1, h2⟩ := h.last
  exact ⟨st, by rw [hM l hl.1 hl.2, h1], h2⟩
theorem frag_eps {at_ : Nat} (h : M[at_]? = some ⟨none, none, []⟩) : Frag M at_ (at_ + 1) at_ at_ .eps := by
  refine ⟨by omega, by omega, (List.getElem?_eq_some_iff.1 h).1, ⟨_, h, ⟨rfl, rfl⟩, rfl⟩, fun M' s _ i j hm => ?_, fun M' s _ n i q j hr => .inr ⟨i, n, Nat.le_refl _, .eps i, hr⟩, fun q st a b hst => ?_⟩
  rotate_left
  · obtain rfl : q = at_ := by omega
    rw [h] at hst
    injection hst with hst
    subst hst
    exact ⟨by simp, by simp⟩
  cases hm
  exact ⟨0, .nil _⟩
theorem frag_cls {lo : Nat} {g : Nat → Bool} (hl : M[lo]? = some ⟨none, none, []⟩) (hf : M[lo + 1]? = some ⟨some g, none, [lo]⟩) : Frag M lo (lo + 2) (lo + 1) lo (.cls g) := by
  refine ⟨by omega, by omega, (List.getElem?_eq_some_iff.1 hf).1, ⟨_, hl, ⟨rfl, rfl⟩, rfl⟩, fun M' s h i j hm => ?_, fun M' s h n i q j hr => ?_, fun q st x y hst => ?_⟩
  rotate_left 2
  · have hq : q = lo ∨ q = lo + 1 := by omega
    rcases hq with rfl | rfl
    · rw [hl] at hst
      injection hst with hst
      subst hst
      exact ⟨by simp, by simp⟩
    · rw [hf] at hst
      injection hst with hst
      subst hst
      exact ⟨by simp, by simp⟩
  · have h1 := h.at_ (lo + 1) (by omega) (by omega) (by omega)
    rw [hf] at h1
    cases hm with
    | cls hc hg => exact ⟨1, .cons (.take h1 rfl hc hg rfl) (.nil _)⟩
  · have h1 := h.at_ (lo + 1) (by omega) (by omega) (by omega)
    rw [hf] at h1
    cases hr with
    | nil => exact .inl ⟨by omega, by omega, by omega⟩
    | cons e r =>
      cases e with
      | eps h2 ht hw hn =>
        rw [h1] at h2
        injection h2 with h2
        subst h2
        cases ht
      | take h2 ht hc hg hn =>
        rw [h1] at h2
        injection h2 with h2
        subst h2
        injection ht with ht
        injection hn with hn
        subst ht hn
        exact .inr ⟨i + 1, _, Nat.le_succ _, .cls hc hg, r⟩
theorem frag_where {lo : Nat} {g : Nat → Nat → Bool} {r : Re} (hr0 : ∀ s i j, Mt s r i j ↔ j = i ∧ g i s.length = true) (hl : M[lo]? = some ⟨none, none, []⟩) (hf : M[lo + 1]? = some ⟨none, some g, [lo]⟩) : Frag M lo (lo + 2) (lo + 1) lo r := by
  refine ⟨by omega, by omega, (List.getElem?_eq_some_iff.1 hf).1, ⟨_, hl, ⟨rfl, rfl⟩, rfl⟩, fun M' s h i j hm => ?_, fun M' s h n i q j hr => ?_, fun q st x y hst => ?_⟩
  rotate_left 2
  · have hq : q = lo ∨ q = lo + 1 := by omega
    rcases hq with rfl | rfl
    · rw [hl] at hst
      injection hst with hst
      subst hst
      exact ⟨by simp, by simp⟩
    · rw [hf] at hst
      injection hst with hst
      subst hst
      exact ⟨by simp, by simp⟩
  · have h1 := h.at_ (lo + 1) (by omega) (by omega) (by omega)
    rw [hf] at h1
    obtain ⟨rfl, hg⟩ := (hr0 s i j).1 hm
    exact ⟨1, .cons (.eps h1 rfl (fun g' e => by injection e with e; subst e; exact hg) (by simp)) (.nil _)⟩
  · have h1 := h.at_ (lo + 1) (by omega) (by omega) (by omega)
    rw [hf] at h1
    cases hr with
    | nil => exact .inl ⟨by omega, by omega, by omega⟩
    | cons e r =>
      cases e with
      | eps h2 ht hw hn =>
        rw [h1] at h2
        injection h2 with h2
        subst h2
        have hn := List.mem_singleton.1 hn
        subst hn
        exact .inr ⟨i, _, Nat.le_succ _, (hr0 s i i).2 ⟨rfl, hw g rfl⟩, r⟩
      | take h2 ht hc hg hn =>
        rw [h1] at h2
        injection h2 with h2
        subst h2
        cases ht
theorem mt_bol (s : List Nat) (i j : Nat) : Mt s .bol i j ↔ j = i ∧ (decide (i = 0)) = true := by
  constructor
  · intro h
    cases h with
    | bol _ h => exact ⟨rfl, decide_eq_true h⟩
  · rintro ⟨rfl, h⟩
    exact .bol _ (of_decide_eq_true h)
theorem mt_eol (s : List Nat) (i j : Nat) : Mt s .eol i j ↔ j = i ∧ (decide (i = s.length)) = true := by
  constructor
  · intro h
    cases h with
    | eol _ h => exact ⟨rfl, decide_eq_true h⟩
  · rintro ⟨rfl, h⟩
    exact .eol _ (of_decide_eq_true h)
/-- One behind the other. -/
theorem frag_seq {lo mid hi f l f2 l2 : Nat} {a b : Re} (ha : Frag M lo mid f l a) (hb : Frag M mid hi f2 l2 b)
    (hM : ∀ q, lo ≤ q → q < hi → q ≠ l → M'[q]? = M[q]?) (hl : M'[l]? = some ⟨none, none, [f2]⟩) (hh : hi ≤ M'.length) : Frag M' lo hi f l2 (.seq a b) := by
  have a1 := ha.hf
  have a2 := ha.hl
  have b1 := hb.hf
  have b2 := hb.hl
  refine ⟨by omega, by omega, hh, ?_, fun M2 s h i j hm => ?_, fun M2 s h n i q j hr => ?_, fun q st x y hst => ?_⟩
  rotate_left 3
  · by_cases hq : q = l
    · subst hq
      rw [hl] at hst
      injection hst with hst
      subst hst
      exact ⟨fun k hk => by rw [List.mem_singleton.1 hk]; omega, by simp⟩
    · rw [hM q x y hq] at hst
      rcases Nat.lt_or_ge q mid with h | h
      · obtain ⟨w1, w2⟩ := ha.wf q st x h hst
        exact ⟨fun k hk => by have := w1 k hk; omega, w2⟩
      · obtain ⟨w1, w2⟩ := hb.wf q st h y hst
        exact ⟨fun k hk => by have := w1 k hk; omega, w2⟩
  · obtain ⟨st, h1, h2⟩ := hb.last
    exact ⟨st, by rw [hM l2 (by omega) (by omega) (by omega), h1], h2⟩
  all_goals
    have el : M2[l]? = some ⟨none, none, [f2]⟩ := by rw [h.at_ l (by omega) (by omega) (by omega), hl]
    have gA : Has M M2 lo mid l := h.trans (fun q x y z => ⟨hM q x (by omega) z, x, by omega, by omega⟩) ⟨_, el, rfl, rfl⟩
    have gB : Has M M2 mid hi l2 := h.trans (fun q x y z => ⟨hM q (by omega) y (by omega), by omega, y, z⟩) h.last
  · cases hm with
    | seq h1 h2 =>
      obtain ⟨n1, r1⟩ := ha.to M2 s gA _ _ h1
      obtain ⟨n2, r2⟩ := hb.to M2 s gB _ _ h2
      exact r1.trans (Run.go el ⟨rfl, rfl⟩ (by simp) r2)
  · rcases ha.from_ M2 s gA n i q j hr with ⟨x, y, z⟩ | ⟨k, n', hn', hm, hr'⟩
    · exact .inl ⟨by omega, by omega, by omega⟩
    · rcases hr'.plain el ⟨rfl, rfl⟩ with e | ⟨q', m, hq', rfl, hr2⟩
      · injection e with e1 e2
        subst e1
        exact .inl ⟨by omega, by omega, by omega⟩
      · have hq' : q' = f2 := by simpa using hq'
        subst hq'
        rcases hb.from_ M2 s gB m k q j hr2 with ⟨x, y, z⟩ | ⟨k2, n2, hn2, hm2, hr3⟩
        · exact .inl ⟨by omega, by omega, by omega⟩
        · exact .inr ⟨k2, n2, by omega, .seq hm hm2, hr3⟩
/-- Either. -/
theorem frag_alt {lo mid hi f l f2 l2 : Nat} {a b : Re} (ha : Frag M lo mid f l a) (hb : Frag M mid hi f2 l2 b)
    (hM : ∀ q, lo ≤ q → q < hi → q ≠ l → q ≠ l2 → M'[q]? = M[q]?) (h1 : M'[l]? = some ⟨none, none, [hi]⟩) (h2 : M'[l2]? = some ⟨none, none, [hi]⟩)
    (h3 : M'[hi]? = some ⟨none, none, []⟩) (h4 : M'[hi + 1]? = some ⟨none, none, [f, f2]⟩) : Frag M' lo (hi + 2) (hi + 1) hi (.alt a b) := by
  have a1 := ha.hf
  have a2 := ha.hl
  have b1 := hb.hf
  have b2 := hb.hl
  refine ⟨by omega, by omega, (List.getElem?_eq_some_iff.1 h4).1, ⟨_, h3, ⟨rfl, rfl⟩, rfl⟩, fun M2 s h i j hm => ?_, fun M2 s h n i q j hr => ?_, fun q st x y hst => ?_⟩
  rotate_left 2
  · by_cases hq1 : q = l
    · subst hq1
      rw [h1] at hst
      injection hst with hst
      subst hst
      exact ⟨fun k hk => by rw [List.mem_singleton.1 hk]; omega, by simp⟩
    · by_cases hq2 : q = l2
      · subst hq2
        rw [h2] at hst
        injection hst with hst
        subst hst
        exact ⟨fun k hk => by rw [List.mem_singleton.1 hk]; omega, by simp⟩
      · rcases (show q < mid ∨ (mid ≤ q ∧ q < hi) ∨ q = hi ∨ q = hi + 1 by omega) with h | h | rfl | rfl
        · rw [hM q x (by omega) hq1 hq2] at hst
          obtain ⟨w1, w2⟩ := ha.wf q st x h hst
          exact ⟨fun k hk => by have := w1 k hk; omega, w2⟩
        · rw [hM q x h.2 hq1 hq2] at hst
          obtain ⟨w1, w2⟩ := hb.wf q st h.1 h.2 hst
          exact ⟨fun k hk => by have := w1 k hk; omega, w2⟩
        · rw [h3] at hst
          injection hst with hst
          subst hst
          exact ⟨by simp, by simp⟩
        · rw [h4] at hst
          injection hst with hst
          subst hst
          refine ⟨fun k hk => ?_, by simp⟩
          have hk : k = f ∨ k = f2 := by simpa using hk
          omega
  all_goals
    have el : M2[l]? = some ⟨none, none, [hi]⟩ := by rw [h.at_ l (by omega) (by omega) (by omega), h1]
    have el2 : M2[l2]? = some ⟨none, none, [hi]⟩ := by rw [h.at_ l2 (by omega) (by omega) (by omega), h2]
    have ef : M2[hi + 1]? = some ⟨none, none, [f, f2]⟩ := by rw [h.at_ (hi + 1) (by omega) (by omega) (by omega), h4]
    have gA : Has M M2 lo mid l := h.trans (fun q x y z => ⟨hM q x (by omega) z (by omega), x, by omega, by omega⟩) ⟨_, el, rfl, rfl⟩
    have gB : Has M M2 mid hi l2 := h.trans (fun q x y z => ⟨hM q (by omega) y (by omega) z, by omega, by omega, by omega⟩) ⟨_, el2, rfl, rfl⟩
  · cases hm with
    | altl hm =>
      obtain ⟨n1, r1⟩ := ha.to M2 s gA _ _ hm
      obtain ⟨n2, r2⟩ := r1.trans (Run.go el ⟨rfl, rfl⟩ (List.mem_singleton.2 rfl) (.nil _))
      exact ⟨_, Run.go ef ⟨rfl, rfl⟩ (by simp) r2⟩
    | altr hm =>
      obtain ⟨n1, r1⟩ := hb.to M2 s gB _ _ hm
      obtain ⟨n2, r2⟩ := r1.trans (Run.go el2 ⟨rfl, rfl⟩ (List.mem_singleton.2 rfl) (.nil _))
      exact ⟨_, Run.go ef ⟨rfl, rfl⟩ (by simp) r2⟩
  · rcases hr.plain ef ⟨rfl, rfl⟩ with e | ⟨q', m, hq', rfl, hr1⟩
    · injection e with e1 e2
      exact .inl ⟨by omega, by omega, by omega⟩
    · have hq' : q' = f ∨ q' = f2 := by simpa using hq'
      have fin : ∀ (l : Nat) (k n' : Nat), M2[l]? = some ⟨none, none, [hi]⟩ → lo ≤ l → l < hi → n' ≤ m → Mt s (.alt a b) i k → Run M2 s n' (l, k) (q, j) →
          (lo ≤ q ∧ q < hi + 2 ∧ q ≠ hi) ∨ ∃ k n', n' ≤ m + 1 ∧ Mt s (.alt a b) i k ∧ Run M2 s n' (hi, k) (q, j) := by
        intro l k n' el hlo hlh hn' hm hr'
        rcases hr'.plain el ⟨rfl, rfl⟩ with e | ⟨q', m', hq', rfl, hr2⟩
        · injection e with e1 e2
          exact .inl ⟨by omega, by omega, by omega⟩
        · have hq' : q' = hi := by simpa using hq'
          subst hq'
          exact .inr ⟨k, m', by omega, hm, hr2⟩
      rcases hq' with rfl | rfl
      · rcases ha.from_ M2 s gA m i q j hr1 with ⟨x, y, z⟩ | ⟨k, n', hn', hm, hr'⟩
        · exact .inl ⟨by omega, by omega, by omega⟩
        · exact fin l k n' el (by omega) (by omega) hn' (.altl hm) hr'
      · rcases hb.from_ M2 s gB m i q j hr1 with ⟨x, y, z⟩ | ⟨k, n', hn', hm, hr'⟩
        · exact .inl ⟨by omega, by omega, by omega⟩
        · exact fin l2 k n' el2 (by omega) (by omega) hn' (.altr hm) hr'
theorem star_snoc {a : Re} {i j k : Nat} (h : Mt s (.star a) i j) (h2 : Mt s a j k) : Mt s (.star a) i k := by
  generalize hr : Re.star a = r at h
  induction h with
  | star0 i => injection hr with hr; subst hr; exact .star1 h2 (.star0 _)
  | star1 h1 _ _ ih => injection hr with hr; subst hr; exact .star1 h1 (ih h2 rfl)
  | _ => cases hr
/-- A part as often as it likes, or once at least, or once at most. -/
inductive Sign where
  | star | plus | opt
deriving DecidableEq
def Sign.re : Sign → Re → Re
  | .star => .star
  | .plus => .plus
  | .opt => .opt
theorem frag_many {lo hi f l : Nat} {a : Re} (g : Sign) (ha : Frag M lo hi f l a) (hM : ∀ q, lo ≤ q → q < hi → q ≠ l → M'[q]? = M[q]?)
    (h1 : M'[l]? = some ⟨none, none, if g = .opt then [hi] else [hi, f]⟩) (h3 : M'[hi]? = some ⟨none, none, []⟩) (h4 : M'[hi + 1]? = some ⟨none, none, if g = .plus then [f] else [f, hi]⟩) :
    Frag M' lo (hi + 2) (hi + 1) hi (g.re a) := by
  have a1 := ha.hf
  have a2 := ha.hl
  refine ⟨by omega, by omega, (List.getElem?_eq_some_iff.1 h4).1, ⟨_, h3, ⟨rfl, rfl⟩, rfl⟩, fun M2 s h i j hm => ?_, fun M2 s h n i q j hr => ?_, fun q st x y hst => ?_⟩
  rotate_left 2
  · by_cases hq1 : q = l
    · subst hq1
      rw [h1] at hst
      injection hst with hst
      subst hst
      refine ⟨fun k hk => ?_, by cases g <;> simp⟩
      have hk : k = hi ∨ k = f := by
        cases g <;> simp at hk <;> omega
      omega
    · rcases (show q < hi ∨ q = hi ∨ q = hi + 1 by omega) with h | rfl | rfl
      · rw [hM q x h hq1] at hst
        obtain ⟨w1, w2⟩ := ha.wf q st x h hst
        exact ⟨fun k hk => by have := w1 k hk; omega, w2⟩
      · rw [h3] at hst
        injection hst with hst
        subst hst
        exact ⟨by simp, by simp⟩
      · rw [h4] at hst
        injection hst with hst
        subst hst
        refine ⟨fun k hk => ?_, by cases g <;> simp⟩
        have hk : k = hi ∨ k = f := by
          cases g <;> simp at hk <;> omega
        omega
  all_goals
    have el : M2[l]? = some ⟨none, none, if g = .opt then [hi] else [hi, f]⟩ := by rw [h.at_ l (by omega) (by omega) (by omega), h1]
    have ef : M2[hi + 1]? = some ⟨none, none, if g = .plus then [f] else [f, hi]⟩ := by rw [h.at_ (hi + 1) (by omega) (by omega) (by omega), h4]
    have gA : Has M M2 lo hi l := h.trans (fun q x y z => ⟨hM q x (by omega) z, x, by omega, by omega⟩) ⟨_, el, rfl, rfl⟩
  · have out : ∀ k, Run M2 s 1 (l, k) (hi, k) := fun k => Run.go el ⟨rfl, rfl⟩ (by cases g <;> simp) (.nil _)
    have loop : ∀ i j, Mt s (.star a) i j → g ≠ .opt → ∃ n, Run M2 s n (l, i) (hi, j) := by
      intro i j hm hg
      generalize hr : Re.star a = r at hm
      induction hm with
      | star0 i => exact ⟨1, out _⟩
      | star1 h1 _ _ ih =>
        injection hr with hr
        subst hr
        obtain ⟨n2, r2⟩ := ih rfl
        obtain ⟨n1, r1⟩ := ha.to M2 s gA _ _ h1
        obtain ⟨n3, r3⟩ := r1.trans r2
        exact ⟨_, Run.go el ⟨rfl, rfl⟩ (by rw [if_neg hg]; simp) r3⟩
      | _ => cases hr
    cases g with
    | star =>
      cases hm with
      | star0 => exact ⟨_, Run.go ef ⟨rfl, rfl⟩ (by simp) (.nil _)⟩
      | star1 hx hy =>
        obtain ⟨n1, r1⟩ := ha.to M2 s gA _ _ hx
        obtain ⟨n2, r2⟩ := loop _ _ hy (by decide)
        obtain ⟨n3, r3⟩ := r1.trans r2
        exact ⟨_, Run.go ef ⟨rfl, rfl⟩ (by simp) r3⟩
    | plus =>
      cases hm with
      | plus hx hy =>
        obtain ⟨n1, r1⟩ := ha.to M2 s gA _ _ hx
        obtain ⟨n2, r2⟩ := loop _ _ hy (by decide)
        obtain ⟨n3, r3⟩ := r1.trans r2
        exact ⟨_, Run.go ef ⟨rfl, rfl⟩ (by simp) r3⟩
    | opt =>
      cases hm with
      | opt0 => exact ⟨_, Run.go ef ⟨rfl, rfl⟩ (by simp) (.nil _)⟩
      | opt1 hx =>
        obtain ⟨n1, r1⟩ := ha.to M2 s gA _ _ hx
        obtain ⟨n3, r3⟩ := r1.trans (out _)
        exact ⟨_, Run.go ef ⟨rfl, rfl⟩ (by simp) r3⟩
  · -- what was taken so far: some times, then from the part's last state on
    have loop : ∀ (n : Nat) (i0 k : Nat), Mt s (.star a) i0 k → Run M2 s n (f, k) (q, j) → g ≠ .opt →
        (lo ≤ q ∧ q < hi + 2 ∧ q ≠ hi) ∨ ∃ k1 k2 n', n' ≤ n ∧ Mt s (.star a) i0 k1 ∧ Mt s a k1 k2 ∧ Run M2 s n' (hi, k2) (q, j) := by
      intro n
      induction n using Nat.strongRecOn with
      | ind n ih =>
        intro i0 k hs hr hg
        rcases ha.from_ M2 s gA n k q j hr with ⟨x, y, z⟩ | ⟨k2, n', hn', hm, hr'⟩
        · exact .inl ⟨by omega, by omega, by omega⟩
        · rcases hr'.plain el ⟨rfl, rfl⟩ with e | ⟨q', m, hq', rfl, hr2⟩
          · injection e with e1 e2
            exact .inl ⟨by omega, by omega, by omega⟩
          · rw [if_neg hg] at hq'
            have hq' : q' = hi ∨ q' = f := by simpa using hq'
            rcases hq' with rfl | rfl
            · exact .inr ⟨k, k2, m, by omega, hs, hm, hr2⟩
            · rcases ih m (by omega) i0 k2 (star_snoc hs hm) hr2 hg with h | ⟨k3, k4, n4, h1, h2, h3, h4⟩
              · exact .inl h
              · exact .inr ⟨k3, k4, n4, by omega, h2, h3, h4⟩
    rcases hr.plain ef ⟨rfl, rfl⟩ with e | ⟨q', m, hq', rfl, hr1⟩
    · injection e with e1 e2
      exact .inl ⟨by omega, by omega, by omega⟩
    · have hq'' : q' = f ∨ (q' = hi ∧ g ≠ .plus) := by
        split at hq'
        · exact .inl (by simpa using hq')
        · rename_i hg
          have : q' = f ∨ q' = hi := by simpa using hq'
          exact this.imp_right fun h => ⟨h, hg⟩
      rcases hq'' with rfl | ⟨rfl, hg⟩
      · cases g with
        | opt =>
          rcases ha.from_ M2 s gA m i q j hr1 with ⟨x, y, z⟩ | ⟨k2, n', hn', hm, hr'⟩
          · exact .inl ⟨by omega, by omega, by omega⟩
          · rcases hr'.plain el ⟨rfl, rfl⟩ with e | ⟨q', m', hq', rfl, hr2⟩
            · injection e with e1 e2
              exact .inl ⟨by omega, by omega, by omega⟩
            · have hq' : q' = hi := by simpa using hq'
              subst hq'
              exact .inr ⟨k2, m', by omega, .opt1 hm, hr2⟩
        | star =>
          rcases loop m i i (.star0 _) hr1 (by decide) with h | ⟨k1, k2, n', h1, h2, h3, h4⟩
          · exact .inl h
          · exact .inr ⟨k2, n', by omega, star_snoc h2 h3, h4⟩
        | plus =>
          rcases loop m i i (.star0 _) hr1 (by decide) with h | ⟨k1, k2, n', h1, h2, h3, h4⟩
          · exact .inl h
          · refine .inr ⟨k2, n', by omega, ?_, h4⟩
            cases h2 with
            | star0 => exact .plus h3 (.star0 _)
            | star1 hx hy => exact .plus hx (star_snoc hy h3)
      · refine .inr ⟨i, m, by omega, ?_, hr1⟩
        cases g with
        | star => exact .star0 _
        | opt => exact .opt0 _
        | plus => exact absurd rfl hg
/-- A machine that is one part takes what its pattern does. -/
theorem Frag.takes {lo hi f l : Nat} {r : Re} (h : Frag M lo hi f l r) (i j : Nat) : (∃ n, Run M s n (f, i) (l, j)) ↔ Mt s r i j := by
  obtain ⟨st, h1, h2, h3⟩ := h.last
  have hh : Has M M lo hi l := ⟨fun _ _ _ _ => rfl, st, h1, h2⟩
  constructor
  · rintro ⟨n, hr⟩
    rcases h.from_ M s hh n i l j hr with ⟨_, _, hne⟩ | ⟨k, n', _, hm, hr'⟩
    · exact absurd rfl hne
    · rcases hr'.plain h1 h2 with e | ⟨q', m, hq', _⟩
      · injection e with e1 e2
        subst e2
        exact hm
      · rw [h3] at hq'
        cases hq'
  · exact h.to M s hh i j
end Go.Proofs.Ytaaikjedagnjbaa

/- Patterns read: which texts are patterns, and what they mean. Plain. -/
namespace Go.Proofs.Ytaaikjedagnjbaa
open Go Go.Lib

/-- What a letter behind a backslash stands for: runes from first to last ones. -/
def classR (c : Nat) : List (Nat × Nat) :=
  if c = 100 then [(48, 57)] else if c = 119 then [(48, 57), (97, 122), (65, 90), (95, 95)] else if c = 115 then [(32, 32), (9, 9), (10, 10), (13, 13)] else []
/-- Whether a rune is in one of some spans. -/
def inR (l : List (Nat × Nat)) (c : Nat) : Bool := l.any fun s => decide (s.1 ≤ c) && decide (c ≤ s.2)
/-- What a rune behind a backslash stands for. -/
def escR (c : Nat) : Option Nat := if c = 110 then some 10 else if c = 116 then some 9 else if c ≤ 32 ∨ 126 < c ∨ inR [(48, 57), (97, 122), (65, 90)] c = true then none else some c
/-- A rune of items. -/
def singleR : List Nat → Option (Nat × List Nat)
  | [] => none
  | c :: r => if c = 92 then (match r with | [] => none | d :: r' => (escR d).map fun x => (x, r')) else if c = 91 ∨ c = 93 ∨ c = 94 ∨ c = 45 then none else some (c, r)
/-- One item: its spans. -/
def itemR (l : List Nat) : Option (List (Nat × Nat) × List Nat) :=
  if l.head? = some 92 ∧ classR ((l.drop 1).headD 0) ≠ [] then some (classR ((l.drop 1).headD 0), l.drop 2)
  else match singleR l with
    | none => none
    | some (lo, r) => match r with
      | [] => some ([(lo, lo)], [])
      | c :: r' => if c = 45 then (match singleR r' with | none => none | some (hi, r'') => if hi < lo then none else some ([(lo, hi)], r'')) else some ([(lo, lo)], c :: r')
def itemsR : Nat → List (Nat × Nat) → List Nat → Option (List (Nat × Nat) × List Nat)
  | 0, _, _ => none
  | f + 1, acc, l => match l with
    | [] => none
    | c :: r => if c = 93 then some (acc, r) else match itemR (c :: r) with
      | none => none
      | some (x, l1) => itemsR f (acc ++ x) l1
/-- Behind a bracket. -/
def brackR (l : List Nat) : Option (Re × List Nat) :=
  match itemsR (l.length + 1) [] (if l.head? = some 94 then l.drop 1 else l) with
  | none => none
  | some (s, l1) => if s = [] then none else some (.cls fun c => inR s c != decide (l.head? = some 94), l1)
/-- Behind a backslash. -/
def slashR : List Nat → Option (Re × List Nat)
  | [] => none
  | e :: r => if classR e ≠ [] then some (.cls (inR (classR e)), r) else (escR e).map fun x => (.cls fun c => decide (c = x), r)
/-- The runes that stand for something else. -/
def markR (c : Nat) : Bool := decide (c = 41) || decide (c = 93) || decide (c = 123) || decide (c = 125) || decide (c = 42) || decide (c = 43) || decide (c = 63) || decide (c = 124)
/-- A sign behind an atom. -/
def signR (r : Re) : List Nat → Re × List Nat
  | [] => (r, [])
  | c :: l => if c = 42 then (.star r, l) else if c = 43 then (.plus r, l) else if c = 63 then (.opt r, l) else (r, c :: l)
mutual
def altF : Nat → Nat → List Nat → Option (Re × List Nat)
  | 0, _, _ => none
  | f + 1, d, l => match seqF f d .eps l with
    | none => none
    | some (r, l1) => barF f d r l1
def barF : Nat → Nat → Re → List Nat → Option (Re × List Nat)
  | 0, _, _, _ => none
  | f + 1, d, r, l => match l with
    | [] => some (r, [])
    | c :: l1 => if c = 124 then (match seqF f d .eps l1 with | none => none | some (r2, l2) => barF f d (.alt r r2) l2) else some (r, c :: l1)
def seqF : Nat → Nat → Re → List Nat → Option (Re × List Nat)
  | 0, _, _, _ => none
  | f + 1, d, acc, l => match l with
    | [] => some (acc, [])
    | c :: l1 => if c = 124 ∨ c = 41 then some (acc, c :: l1) else match atomF f d (c :: l1) with
      | none => none
      | some (r, l2) => seqF f d (.seq acc (signR r l2).1) (signR r l2).2
def atomF : Nat → Nat → List Nat → Option (Re × List Nat)
  | 0, _, _ => none
  | f + 1, d, l => match l with
    | [] => none
    | c :: l1 => if c = 40 then (if 6 ≤ d then none else match altF f (d + 1) l1 with
        | none => none
        | some (r, l2) => match l2 with
          | [] => none
          | e :: l3 => if e = 41 then some (r, l3) else none)
      else if c = 91 then brackR l1 else if c = 46 then some (.cls fun x => decide (x ≠ 10), l1) else if c = 94 then some (.bol, l1) else if c = 36 then some (.eol, l1)
      else if c = 92 then slashR l1 else if markR c then none else some (.cls fun x => decide (x = c), l1)
end
theorem single_cons (c : Nat) (r : List Nat) : singleR (c :: r) = if c = 92 then (match r with | [] => none | d :: r' => (escR d).map fun x => (x, r')) else if c = 91 ∨ c = 93 ∨ c = 94 ∨ c = 45 then none else some (c, r) := rfl
theorem slash_cons (e : Nat) (r : List Nat) : slashR (e :: r) = if classR e ≠ [] then some (.cls (inR (classR e)), r) else (escR e).map fun x => (.cls fun c => decide (c = x), r) := rfl
theorem sign_cons (r : Re) (c : Nat) (l : List Nat) : signR r (c :: l) = if c = 42 then (.star r, l) else if c = 43 then (.plus r, l) else if c = 63 then (.opt r, l) else (r, c :: l) := rfl
theorem single_len {l r : List Nat} {x : Nat} (h : singleR l = some (x, r)) : r.length < l.length := by
  cases l with
  | nil => cases h
  | cons c l =>
    rw [single_cons] at h
    split at h
    · cases l with
      | nil => cases h
      | cons d r' =>
        have h : (escR d).map (fun x => (x, r')) = some (x, r) := h
        obtain ⟨y, hy, e⟩ := Option.map_eq_some_iff.1 h
        injection e with _ e
        subst e
        simp
        omega
    · split at h
      · cases h
      · injection h with h
        injection h with _ h
        subst h
        simp
theorem item_len {l r : List Nat} {x : List (Nat × Nat)} (h : itemR l = some (x, r)) : r.length < l.length := by
  unfold itemR at h
  split at h
  · rename_i h1
    injection h with h
    injection h with _ h
    subst h
    cases l with
    | nil => cases h1.1
    | cons c l => simp; omega
  · split at h
    · cases h
    · rename_i lo r1 hs
      have h1 := single_len hs
      cases r1 with
      | nil =>
        injection h with h
        injection h with _ h
        subst h
        simpa using h1
      | cons c r' =>
        dsimp only at h
        split at h
        · split at h
          · cases h
          · rename_i hi r'' hs2
            have h2 := single_len hs2
            split at h
            · cases h
            · injection h with h
              injection h with _ h
              subst h
              simp at h1
              omega
        · injection h with h
          injection h with _ h
          subst h
          exact h1
theorem items_len : ∀ (f : Nat) (acc : List (Nat × Nat)) (l : List Nat) (x : List (Nat × Nat)) (r : List Nat), itemsR f acc l = some (x, r) → r.length < l.length
  | 0, _, _, _, _, h => by cases h
  | f + 1, acc, l, x, r, h => by
    unfold itemsR at h
    cases l with
    | nil => cases h
    | cons c l =>
      dsimp only at h
      split at h
      · injection h with h
        injection h with _ h
        subst h
        simp
      · split at h
        · cases h
        · rename_i y l1 hi
          have h1 := item_len hi
          have h2 := items_len f _ _ _ _ h
          omega
/-- More rounds tell nothing else. -/
theorem items_fuel : ∀ (f g : Nat) (acc : List (Nat × Nat)) (l : List Nat), l.length < f → l.length < g → itemsR f acc l = itemsR g acc l
  | 0, _, _, _, h, _ => absurd h (Nat.not_lt_zero _)
  | _, 0, _, _, _, h => absurd h (Nat.not_lt_zero _)
  | f + 1, g + 1, acc, l, h1, h2 => by
    unfold itemsR
    cases l with
    | nil => rfl
    | cons c l =>
      dsimp only
      split
      · rfl
      · cases hi : itemR (c :: l) with
        | none => rfl
        | some p =>
          obtain ⟨x, l1⟩ := p
          have := item_len hi
          exact items_fuel f g _ _ (by omega) (by omega)
theorem brack_len {l r : List Nat} {x : Re} (h : brackR l = some (x, r)) : r.length < l.length := by
  unfold brackR at h
  split at h
  · cases h
  · rename_i s l1 hi
    have h1 := items_len _ _ _ _ _ hi
    split at h
    · cases h
    · injection h with h
      injection h with _ h
      subst h
      split at h1
      · rw [List.length_drop] at h1; omega
      · exact h1
theorem slash_len {l r : List Nat} {x : Re} (h : slashR l = some (x, r)) : r.length < l.length := by
  cases l with
  | nil => cases h
  | cons c l =>
    rw [slash_cons] at h
    split at h
    · injection h with h
      injection h with _ h
      subst h
      simp
    · obtain ⟨y, hy, e⟩ := Option.map_eq_some_iff.1 h
      injection e with _ e
      subst e
      simp
theorem sign_len (r : Re) (l : List Nat) : (signR r l).2.length ≤ l.length := by
  cases l with
  | nil => simp [signR]
  | cons c l =>
    rw [sign_cons]
    split
    · simp
    · split
      · simp
      · split <;> simp
theorem rest_len : ∀ f : Nat, (∀ d l x r, altF f d l = some (x, r) → r.length ≤ l.length) ∧ (∀ d a l x r, barF f d a l = some (x, r) → r.length ≤ l.length) ∧
    (∀ d a l x r, seqF f d a l = some (x, r) → r.length ≤ l.length) ∧ (∀ d l x r, atomF f d l = some (x, r) → r.length < l.length) := by
  intro f
  induction f with
  | zero => exact ⟨fun d l x r h => (by unfold altF at h; cases h), fun d a l x r h => (by unfold barF at h; cases h), fun d a l x r h => (by unfold seqF at h; cases h), fun d l x r h => (by unfold atomF at h; cases h)⟩
  | succ f ih =>
    obtain ⟨ih1, ih2, ih3, ih4⟩ := ih
    refine ⟨fun d l x r h => ?_, fun d a l x r h => ?_, fun d a l x r h => ?_, fun d l x r h => ?_⟩
    · unfold altF at h
      split at h
      · cases h
      · rename_i r1 l1 hs
        have h1 := ih3 _ _ _ _ _ hs
        have h2 := ih2 _ _ _ _ _ h
        omega
    · unfold barF at h
      cases l with
      | nil =>
        injection h with h
        injection h with _ h
        subst h
        exact Nat.le_refl _
      | cons c l =>
        dsimp only at h
        split at h
        · split at h
          · cases h
          · rename_i r2 l2 hs
            have h1 := ih3 _ _ _ _ _ hs
            have h2 := ih2 _ _ _ _ _ h
            simp
            omega
        · injection h with h
          injection h with _ h
          subst h
          exact Nat.le_refl _
    · unfold seqF at h
      cases l with
      | nil =>
        injection h with h
        injection h with _ h
        subst h
        exact Nat.le_refl _
      | cons c l =>
        dsimp only at h
        split at h
        · injection h with h
          injection h with _ h
          subst h
          exact Nat.le_refl _
        · split at h
          · cases h
          · rename_i r1 l2 hs
            have h1 := ih4 _ _ _ _ hs
            have h2 := ih3 _ _ _ _ _ h
            have h3 := sign_len r1 l2
            omega
    · unfold atomF at h
      cases l with
      | nil => cases h
      | cons c l =>
        have hcons : ∀ {y : Re} {q : List Nat}, some (y, q) = some (x, r) → q.length < (c :: l).length → r.length < (c :: l).length := by
          intro y q e hq
          injection e with e
          injection e with _ e
          rw [← e]
          exact hq
        dsimp only at h
        split at h
        · split at h
          · cases h
          · split at h
            · cases h
            · rename_i r1 l2 hs
              have h1 := ih1 _ _ _ _ hs
              cases l2 with
              | nil => cases h
              | cons e l3 =>
                dsimp only at h
                split at h
                · exact hcons h (by simp at h1 ⊢; omega)
                · cases h
        · split at h
          · have := brack_len h; simp; omega
          · split at h
            · exact hcons h (by simp)
            · split at h
              · exact hcons h (by simp)
              · split at h
                · exact hcons h (by simp)
                · split at h
                  · have := slash_len h; simp; omega
                  · split at h
                    · cases h
                    · exact hcons h (by simp)
/-- More rounds tell nothing else. -/
theorem fuel_any : ∀ n : Nat, (∀ f g d l, l.length ≤ n → 4 * l.length + 4 ≤ f → 4 * l.length + 4 ≤ g → altF f d l = altF g d l) ∧ (∀ f g d a l, l.length ≤ n → 4 * l.length + 3 ≤ f → 4 * l.length + 3 ≤ g → barF f d a l = barF g d a l) ∧
    (∀ f g d a l, l.length ≤ n → 4 * l.length + 3 ≤ f → 4 * l.length + 3 ≤ g → seqF f d a l = seqF g d a l) ∧ (∀ f g d l, l.length ≤ n → 4 * l.length + 1 ≤ f → 4 * l.length + 1 ≤ g → atomF f d l = atomF g d l) := by
  intro n
  induction n using Nat.strongRecOn with
  | ind n ih =>
    have hatom : ∀ f g d l, l.length ≤ n → 4 * l.length + 1 ≤ f → 4 * l.length + 1 ≤ g → atomF f d l = atomF g d l := by
      intro f g d l hl hf hg
      obtain ⟨f, rfl⟩ : ∃ k, f = k + 1 := ⟨f - 1, by omega⟩
      obtain ⟨g, rfl⟩ : ∃ k, g = k + 1 := ⟨g - 1, by omega⟩
      unfold atomF
      cases l with
      | nil => rfl
      | cons c l =>
        simp only [List.length_cons] at hl hf hg
        dsimp only
        rw [(ih (n - 1) (by omega)).1 f g (d + 1) l (by omega) (by omega) (by omega)]
    have hseq : ∀ (k : Nat), ∀ f g d a l, l.length ≤ k → k ≤ n → 4 * l.length + 3 ≤ f → 4 * l.length + 3 ≤ g → seqF f d a l = seqF g d a l := by
      intro k
      induction k with
      | zero =>
        intro f g d a l hl _ hf hg
        obtain ⟨f, rfl⟩ : ∃ k, f = k + 1 := ⟨f - 1, by omega⟩
        obtain ⟨g, rfl⟩ : ∃ k, g = k + 1 := ⟨g - 1, by omega⟩
        unfold seqF
        have : l = [] := List.eq_nil_of_length_eq_zero (by omega)
        subst this
        rfl
      | succ k ihk =>
        intro f g d a l hl hk hf hg
        obtain ⟨f, rfl⟩ : ∃ k, f = k + 1 := ⟨f - 1, by omega⟩
        obtain ⟨g, rfl⟩ : ∃ k, g = k + 1 := ⟨g - 1, by omega⟩
        unfold seqF
        cases l with
        | nil => rfl
        | cons c l =>
          dsimp only
          split
          · rfl
          · rw [hatom f g d (c :: l) (by omega) (by omega) (by omega)]
            cases ha : atomF g d (c :: l) with
            | none => rfl
            | some p =>
              obtain ⟨r, l2⟩ := p
              have h1 := (rest_len g).2.2.2 _ _ _ _ ha
              have h2 := sign_len r l2
              exact ihk f g d _ _ (by omega) (by omega) (by omega) (by omega)
    have hbar : ∀ (k : Nat), ∀ f g d a l, l.length ≤ k → k ≤ n → 4 * l.length + 3 ≤ f → 4 * l.length + 3 ≤ g → barF f d a l = barF g d a l := by
      intro k
      induction k with
      | zero =>
        intro f g d a l hl _ hf hg
        obtain ⟨f, rfl⟩ : ∃ k, f = k + 1 := ⟨f - 1, by omega⟩
        obtain ⟨g, rfl⟩ : ∃ k, g = k + 1 := ⟨g - 1, by omega⟩
        unfold barF
        have : l = [] := List.eq_nil_of_length_eq_zero (by omega)
        subst this
        rfl
      | succ k ihk =>
        intro f g d a l hl hk hf hg
        obtain ⟨f, rfl⟩ : ∃ k, f = k + 1 := ⟨f - 1, by omega⟩
        obtain ⟨g, rfl⟩ : ∃ k, g = k + 1 := ⟨g - 1, by omega⟩
        unfold barF
        cases l with
        | nil => rfl
        | cons c l =>
          simp only [List.length_cons] at hl hf hg
          dsimp only
          split
          · rw [hseq k f g d .eps l (by omega) (by omega) (by omega) (by omega)]
            cases hs : seqF g d .eps l with
            | none => rfl
            | some p =>
              obtain ⟨r2, l2⟩ := p
              have h1 := (rest_len g).2.2.1 _ _ _ _ _ hs
              exact ihk f g d _ _ (by omega) (by omega) (by omega) (by omega)
          · rfl
    refine ⟨fun f g d l hl hf hg => ?_, fun f g d a l hl hf hg => hbar n f g d a l hl (Nat.le_refl _) hf hg, fun f g d a l hl hf hg => hseq n f g d a l hl (Nat.le_refl _) hf hg, hatom⟩
    obtain ⟨f, rfl⟩ : ∃ k, f = k + 1 := ⟨f - 1, by omega⟩
    obtain ⟨g, rfl⟩ : ∃ k, g = k + 1 := ⟨g - 1, by omega⟩
    unfold altF
    rw [hseq n f g d .eps l hl (Nat.le_refl _) (by omega) (by omega)]
    cases hs : seqF g d .eps l with
    | none => rfl
    | some p =>
      obtain ⟨r2, l2⟩ := p
      have h1 := (rest_len g).2.2.1 _ _ _ _ _ hs
      exact hbar n f g d _ _ (by omega) (Nat.le_refl _) (by omega) (by omega)
/-- An alt, what stands behind one, a seq, an atom, at a depth: what they mean, and what is left. -/
def altR (d : Nat) (l : List Nat) : Option (Re × List Nat) := altF (4 * l.length + 4) d l
def barR (d : Nat) (a : Re) (l : List Nat) : Option (Re × List Nat) := barF (4 * l.length + 3) d a l
def seqR (d : Nat) (a : Re) (l : List Nat) : Option (Re × List Nat) := seqF (4 * l.length + 3) d a l
def atomR (d : Nat) (l : List Nat) : Option (Re × List Nat) := atomF (4 * l.length + 1) d l
theorem altR_eq (f d : Nat) (l : List Nat) (h : 4 * l.length + 4 ≤ f) : altF f d l = altR d l := (fuel_any l.length).1 f _ d l (Nat.le_refl _) h (Nat.le_refl _)
theorem barR_eq (f d : Nat) (a : Re) (l : List Nat) (h : 4 * l.length + 3 ≤ f) : barF f d a l = barR d a l := (fuel_any l.length).2.1 f _ d a l (Nat.le_refl _) h (Nat.le_refl _)
theorem seqR_eq (f d : Nat) (a : Re) (l : List Nat) (h : 4 * l.length + 3 ≤ f) : seqF f d a l = seqR d a l := (fuel_any l.length).2.2.1 f _ d a l (Nat.le_refl _) h (Nat.le_refl _)
theorem atomR_eq (f d : Nat) (l : List Nat) (h : 4 * l.length + 1 ≤ f) : atomF f d l = atomR d l := (fuel_any l.length).2.2.2 f _ d l (Nat.le_refl _) h (Nat.le_refl _)
theorem seqR_len {d : Nat} {a x : Re} {l r : List Nat} (h : seqR d a l = some (x, r)) : r.length ≤ l.length := (rest_len _).2.2.1 _ _ _ _ _ h
theorem barR_len {d : Nat} {a x : Re} {l r : List Nat} (h : barR d a l = some (x, r)) : r.length ≤ l.length := (rest_len _).2.1 _ _ _ _ _ h
theorem altR_len {d : Nat} {x : Re} {l r : List Nat} (h : altR d l = some (x, r)) : r.length ≤ l.length := (rest_len _).1 _ _ _ _ h
theorem atomR_len {d : Nat} {x : Re} {l r : List Nat} (h : atomR d l = some (x, r)) : r.length < l.length := (rest_len _).2.2.2 _ _ _ _ h
theorem alt_step (d : Nat) (l : List Nat) : altR d l = (seqR d .eps l).bind fun p => barR d p.1 p.2 := by
  rw [show altR d l = altF ((4 * l.length + 3) + 1) d l from rfl]
  conv => lhs; unfold altF
  rw [seqR_eq _ d .eps l (Nat.le_refl _)]
  cases h : seqR d .eps l with
  | none => rfl
  | some p =>
    obtain ⟨r, l1⟩ := p
    have := seqR_len h
    exact barR_eq _ d r l1 (by omega)
theorem bar_nil (d : Nat) (a : Re) : barR d a [] = some (a, []) := by unfold barR; unfold barF; rfl
theorem bar_cons (d : Nat) (a : Re) (c : Nat) (l : List Nat) : barR d a (c :: l) = if c = 124 then (seqR d .eps l).bind fun p => barR d (.alt a p.1) p.2 else some (a, c :: l) := by
  rw [show barR d a (c :: l) = barF ((4 * (c :: l).length + 2) + 1) d a (c :: l) from rfl]
  conv => lhs; unfold barF
  dsimp only
  split
  · rw [seqR_eq (4 * (c :: l).length + 2) d .eps l (by simp only [List.length_cons]; omega)]
    cases h : seqR d .eps l with
    | none => rfl
    | some p =>
      obtain ⟨r, l1⟩ := p
      have := seqR_len h
      exact barR_eq (4 * (c :: l).length + 2) d (.alt a r) l1 (by simp only [List.length_cons]; omega)
  · rfl
theorem seq_nil (d : Nat) (a : Re) : seqR d a [] = some (a, []) := by unfold seqR; unfold seqF; rfl
theorem seq_cons (d : Nat) (a : Re) (c : Nat) (l : List Nat) : seqR d a (c :: l) = if c = 124 ∨ c = 41 then some (a, c :: l) else (atomR d (c :: l)).bind fun p => seqR d (.seq a (signR p.1 p.2).1) (signR p.1 p.2).2 := by
  rw [show seqR d a (c :: l) = seqF ((4 * (c :: l).length + 2) + 1) d a (c :: l) from rfl]
  conv => lhs; unfold seqF
  dsimp only
  split
  · rfl
  · rw [atomR_eq (4 * (c :: l).length + 2) d (c :: l) (by omega)]
    cases h : atomR d (c :: l) with
    | none => rfl
    | some p =>
      obtain ⟨r, l1⟩ := p
      have h1 := atomR_len h
      have h2 := sign_len r l1
      exact seqR_eq (4 * (c :: l).length + 2) d (.seq a (signR r l1).1) (signR r l1).2 (by omega)
theorem atom_cons (d : Nat) (c : Nat) (l : List Nat) : atomR d (c :: l) = if c = 40 then (if 6 ≤ d then none else (altR (d + 1) l).bind fun p => match p.2 with | [] => none | e :: l3 => if e = 41 then some (p.1, l3) else none)
      else if c = 91 then brackR l else if c = 46 then some (.cls fun x => decide (x ≠ 10), l) else if c = 94 then some (.bol, l) else if c = 36 then some (.eol, l)
      else if c = 92 then slashR l else if markR c then none else some (.cls fun x => decide (x = c), l) := by
  rw [show atomR d (c :: l) = atomF ((4 * (c :: l).length) + 1) d (c :: l) from rfl]
  conv => lhs; unfold atomF
  dsimp only
  rw [altR_eq (4 * (c :: l).length) (d + 1) l (by simp only [List.length_cons]; omega)]
  cases h : altR (d + 1) l with
  | none => rfl
  | some p => rfl
/-- A pattern. -/
def parseR (l : List Nat) : Option Re := (altR 0 l).bind fun p => if p.2 = [] then some p.1 else none
end Go.Proofs.Ytaaikjedagnjbaa

/- A machine's size; a state told to go on to one more. -/
namespace Go.Proofs.Ytaaikjedagnjbaa
open Go Go.Lib

def wt (M : List St) : Nat := (M.map fun st => 1 + st.nx.length).sum
theorem wt_append (M N : List St) : wt (M ++ N) = wt M + wt N := by simp [wt]
theorem wt_len : ∀ M : List St, M.length ≤ wt M
  | [] => Nat.le_refl _
  | st :: r => by
    have := wt_len r
    simp only [wt, List.map_cons, List.sum_cons, List.length_cons] at *
    omega
theorem wt_nx : ∀ (M : List St) (i : Nat) (st : St), M[i]? = some st → st.nx.length ≤ wt M
  | [], _, _, h => by cases h
  | d :: r, 0, st, h => by
    injection h with h
    subst h
    simp only [wt, List.map_cons, List.sum_cons]
    omega
  | d :: r, i + 1, st, h => by
    have := wt_nx r i st h
    simp only [wt, List.map_cons, List.sum_cons] at *
    omega
theorem wt_set : ∀ (M : List St) (i : Nat) (st st' : St), M[i]? = some st → wt (M.set i st') + st.nx.length = wt M + st'.nx.length
  | [], _, _, _, h => by cases h
  | d :: r, 0, st, st', h => by
    injection h with h
    subst h
    simp only [wt, List.set_cons_zero, List.map_cons, List.sum_cons]
    omega
  | d :: r, i + 1, st, st', h => by
    have := wt_set r i st st' h
    simp only [wt, List.set_cons_succ, List.map_cons, List.sum_cons] at *
    omega
/-- State i goes on to k, too. -/
def goTo (M : List St) (i k : Nat) : List St :=
  match M[i]? with
  | none => M
  | some st => M.set i { st with nx := st.nx ++ [k] }
theorem goTo_eq {M : List St} {i k : Nat} {st : St} (h : M[i]? = some st) : goTo M i k = M.set i { st with nx := st.nx ++ [k] } := by
  unfold goTo; rw [h]
theorem goTo_len (M : List St) (i k : Nat) : (goTo M i k).length = M.length := by
  unfold goTo
  split
  · rfl
  · exact List.length_set
theorem goTo_wt (M : List St) (i k : Nat) : wt (goTo M i k) ≤ wt M + 1 := by
  unfold goTo
  split
  · omega
  · rename_i st h
    have := wt_set M i st { st with nx := st.nx ++ [k] } h
    simp only [List.length_append, List.length_singleton] at this
    omega
theorem goTo_at {M : List St} {i k : Nat} {st : St} (h : M[i]? = some st) : (goTo M i k)[i]? = some { st with nx := st.nx ++ [k] } := by
  rw [goTo_eq h, List.getElem?_set, if_pos rfl, if_pos (List.getElem?_eq_some_iff.1 h).1]
theorem goTo_ne {M : List St} {i k q : Nat} (h : q ≠ i) : (goTo M i k)[q]? = M[q]? := by
  unfold goTo
  split
  · rfl
  · rw [List.getElem?_set, if_neg (Ne.symm h)]
/-- A part some times: sign c. -/
def manyM (M : List St) (f l c : Nat) : List St :=
  let M2 := goTo (M ++ [⟨none, none, []⟩, ⟨none, none, [f]⟩]) l M.length
  let M3 := if c = 63 then M2 else goTo M2 l f
  if c = 43 then M3 else goTo M3 (M.length + 1) M.length
def signOf (c : Nat) : Sign := if c = 63 then .opt else if c = 43 then .plus else .star
theorem manyM_len (M : List St) (f l c : Nat) : (manyM M f l c).length = M.length + 2 := by
  unfold manyM
  simp only
  split <;> split <;> simp [goTo_len]
theorem manyM_wt (M : List St) (f l c : Nat) : wt (manyM M f l c) ≤ wt M + 6 := by
  have h0 : wt (M ++ [(⟨none, none, []⟩ : St), ⟨none, none, [f]⟩]) = wt M + 3 := by rw [wt_append]; rfl
  unfold manyM
  simp only
  have h1 := goTo_wt (M ++ [(⟨none, none, []⟩ : St), ⟨none, none, [f]⟩]) l M.length
  have h2 := goTo_wt (goTo (M ++ [(⟨none, none, []⟩ : St), ⟨none, none, [f]⟩]) l M.length) l f
  have h3 := goTo_wt (goTo (M ++ [(⟨none, none, []⟩ : St), ⟨none, none, [f]⟩]) l M.length) (M.length + 1) M.length
  have h4 := goTo_wt (goTo (goTo (M ++ [(⟨none, none, []⟩ : St), ⟨none, none, [f]⟩]) l M.length) l f) (M.length + 1) M.length
  split <;> split <;> omega
theorem manyM_old {M : List St} {f l c q : Nat} (hq : q < M.length) (hl : q ≠ l) : (manyM M f l c)[q]? = M[q]? := by
  unfold manyM
  simp only
  have h1 : (M ++ [(⟨none, none, []⟩ : St), ⟨none, none, [f]⟩])[q]? = M[q]? := List.getElem?_append_left hq
  have h2 : q ≠ M.length + 1 := by omega
  split <;> split <;> simp only [goTo_ne hl, goTo_ne h2, h1]
theorem manyM_frag {M : List St} {lo f l c : Nat} {a : Re} (ha : Frag M lo M.length f l a) : Frag (manyM M f l c) lo (M.length + 2) (M.length + 1) M.length ((signOf c).re a) := by
  have a1 := ha.hf
  have a2 := ha.hl
  obtain ⟨st, hs1, ⟨hs2, hs3⟩, hs4⟩ := ha.last
  have hst : M[l]? = some ⟨none, none, []⟩ := by rw [hs1]; cases st; simp_all
  have h0 : (M ++ [(⟨none, none, []⟩ : St), ⟨none, none, [f]⟩])[l]? = some ⟨none, none, []⟩ := by rw [List.getElem?_append_left a2.2]; exact hst
  have e0 : (M ++ [(⟨none, none, []⟩ : St), ⟨none, none, [f]⟩])[M.length]? = some ⟨none, none, []⟩ := by rw [List.getElem?_append_right (Nat.le_refl _), Nat.sub_self]; rfl
  have e1 : (M ++ [(⟨none, none, []⟩ : St), ⟨none, none, [f]⟩])[M.length + 1]? = some ⟨none, none, [f]⟩ := by rw [List.getElem?_append_right (by omega), show M.length + 1 - M.length = 1 by omega]; rfl
  have n1 : M.length ≠ l := by omega
  have n2 : M.length + 1 ≠ l := by omega
  have n3 : M.length ≠ M.length + 1 := by omega
  have n4 : l ≠ M.length + 1 := by omega
  have g1 := goTo_at (k := M.length) h0
  have g2 := goTo_at (k := f) g1
  have f1 : ∀ k, (goTo (M ++ [(⟨none, none, []⟩ : St), ⟨none, none, [f]⟩]) l k)[M.length + 1]? = some ⟨none, none, [f]⟩ := fun k => by rw [goTo_ne n2, e1]
  have f2 : ∀ k k', (goTo (goTo (M ++ [(⟨none, none, []⟩ : St), ⟨none, none, [f]⟩]) l k) l k')[M.length + 1]? = some ⟨none, none, [f]⟩ := fun k k' => by rw [goTo_ne n2, f1]
  have p1 := fun k => goTo_at (k := M.length) (f1 k)
  have p2 := fun k k' => goTo_at (k := M.length) (f2 k k')
  refine frag_many (signOf c) ha (fun q h1 h2 h3 => manyM_old h2 h3) ?_ ?_ ?_
  · unfold manyM signOf
    by_cases h63 : c = 63
    · subst h63
      simp only [if_true, if_neg (by decide : ¬ 63 = 43)]
      rw [goTo_ne n4]
      exact g1
    · by_cases h43 : c = 43
      · subst h43
        simp only [if_neg h63, if_true]
        exact g2
      · simp only [if_neg h63, if_neg h43]
        rw [goTo_ne n4]
        exact g2
  · unfold manyM
    simp only
    split <;> split <;> simp only [goTo_ne n1, goTo_ne n3, e0]
  · unfold manyM signOf
    by_cases h63 : c = 63
    · subst h63
      simp only [if_true, if_neg (by decide : ¬ 63 = 43)]
      exact p1 _
    · by_cases h43 : c = 43
      · subst h43
        simp only [if_neg h63, if_true]
        exact f2 _ _
      · simp only [if_neg h63, if_neg h43]
        exact p2 _ _
end Go.Proofs.Ytaaikjedagnjbaa

/- States reached at once: what spread does to a set, and what that comes to. Plain. -/
namespace Go.Proofs.Ytaaikjedagnjbaa
open Go Go.Lib

/-- A step at once, at a place of n. -/
def Ep (M : List St) (at_ n q q' : Nat) : Prop := ∃ st, M[q]? = some st ∧ st.tk = none ∧ (∀ g, st.wh = some g → g at_ n = true) ∧ q' ∈ st.nx
inductive Reach (M : List St) (at_ n i : Nat) : Nat → Prop where
  | refl : Reach M at_ n i i
  | step {q q' : Nat} (h : Reach M at_ n i q) (e : Ep M at_ n q q') : Reach M at_ n i q'
theorem Reach.from {M : List St} {at_ n i j q : Nat} (e : Ep M at_ n i j) (h : Reach M at_ n j q) : Reach M at_ n i q := by
  induction h with
  | refl => exact .step .refl e
  | step _ e2 ih => exact .step ih e2
/-- B' is B and what is reached from i. -/
structure Spr (M : List St) (at_ n : Nat) (B : List Bool) (i : Nat) (B' : List Bool) : Prop where
  len : B'.length = B.length
  mono : ∀ q : Nat, B[q]? = some true → B'[q]? = some true
  has : B'[i]? = some true
  sound : ∀ q : Nat, B'[q]? = some true → B[q]? = some true ∨ Reach M at_ n i q
  closed : ∀ q : Nat, B'[q]? = some true → B[q]? = some true ∨ ∀ q', Ep M at_ n q q' → B'[q']? = some true
/-- The same while the states behind i are gone through. -/
structure SprJ (M : List St) (at_ n : Nat) (B1 : List Bool) (i : Nat) (l : List Nat) (B' : List Bool) : Prop where
  len : B'.length = B1.length
  mono : ∀ q : Nat, B1[q]? = some true → B'[q]? = some true
  all : ∀ k ∈ l, B'[k]? = some true
  sound : ∀ q : Nat, B'[q]? = some true → B1[q]? = some true ∨ Reach M at_ n i q
  closed : ∀ q : Nat, B'[q]? = some true → B1[q]? = some true ∨ ∀ q', Ep M at_ n q q' → B'[q']? = some true
theorem SprJ.start (M : List St) (at_ n : Nat) (B1 : List Bool) (i : Nat) : SprJ M at_ n B1 i [] B1 :=
  ⟨rfl, fun _ h => h, by simp, fun _ h => .inl h, fun _ h => .inl h⟩
theorem SprJ.next {M : List St} {at_ n : Nat} {B1 : List Bool} {i k : Nat} {l : List Nat} {B2 B3 : List Bool} (h : SprJ M at_ n B1 i l B2) (e : Ep M at_ n i k) (s : Spr M at_ n B2 k B3) : SprJ M at_ n B1 i (l ++ [k]) B3 := by
  refine ⟨s.len.trans h.len, fun q hq => s.mono q (h.mono q hq), fun x hx => ?_, fun q hq => ?_, fun q hq => ?_⟩
  · rcases List.mem_append.1 hx with hx | hx
    · exact s.mono x (h.all x hx)
    · rw [List.mem_singleton.1 hx]; exact s.has
  · rcases s.sound q hq with h1 | h1
    · exact h.sound q h1
    · exact .inr (.from e h1)
  · rcases s.closed q hq with h1 | h1
    · rcases h.closed q h1 with h2 | h2
      · exact .inl h2
      · exact .inr fun q' e' => s.mono q' (h2 q' e')
    · exact .inr h1
theorem set_true {B : List Bool} {i : Nat} (hi : i < B.length) : (B.set i true)[i]? = some true := by rw [List.getElem?_set, if_pos rfl, if_pos hi]
theorem set_old {B : List Bool} {i q : Nat} (h : B[q]? = some true) : (B.set i true)[q]? = some true := by
  rw [List.getElem?_set]
  split
  · rename_i e
    subst e
    rw [if_pos (List.getElem?_eq_some_iff.1 h).1]
  · exact h
theorem set_back {B : List Bool} {i q : Nat} (h : (B.set i true)[q]? = some true) : q = i ∨ B[q]? = some true := by
  rw [List.getElem?_set] at h
  split at h
  · rename_i e; exact .inl e.symm
  · exact .inr h
/-- i is there already. -/
theorem spr_there {M : List St} {at_ n : Nat} {B : List Bool} {i : Nat} (h : B[i]? = some true) : Spr M at_ n B i B := ⟨rfl, fun _ h => h, h, fun _ h => .inl h, fun _ h => .inl h⟩
/-- Nothing is reached from i. -/
theorem spr_stop {M : List St} {at_ n : Nat} {B : List Bool} {i : Nat} (hi : i < B.length) (h : ∀ q', ¬ Ep M at_ n i q') : Spr M at_ n B i (B.set i true) :=
  ⟨List.length_set, fun _ h => set_old h, set_true hi, fun q hq => by
    rcases set_back hq with h1 | h1
    · rw [h1]; exact .inr .refl
    · exact .inl h1, fun q hq => by
    rcases set_back hq with h1 | h1
    · rw [h1]; exact .inr fun q' e => absurd e (h q')
    · exact .inl h1⟩
theorem spr_end {M : List St} {at_ n : Nat} {B B' : List Bool} {i : Nat} {st : St} (hi : i < B.length) (hst : M[i]? = some st) (h : SprJ M at_ n (B.set i true) i st.nx B') : Spr M at_ n B i B' := by
  refine ⟨h.len.trans List.length_set, fun q hq => h.mono q (set_old hq), h.mono i (set_true hi), fun q hq => ?_, fun q hq => ?_⟩
  · rcases h.sound q hq with h1 | h1
    · rcases set_back h1 with h2 | h2
      · rw [h2]; exact .inr .refl
      · exact .inl h2
    · exact .inr h1
  · rcases h.closed q hq with h1 | h1
    · rcases set_back h1 with h2 | h2
      · refine .inr fun q' e => ?_
        rw [h2] at e
        obtain ⟨st', a1, a2, a3, a4⟩ := e
        rw [hst] at a1
        injection a1 with a1
        subst a1
        exact h.all q' a4
      · exact .inl h2
    · exact .inr h1
/-- How many are not there. -/
def lacks (B : List Bool) : Nat := (B.filter fun b => !b).length
theorem lacks_mono : ∀ (B B' : List Bool), B'.length = B.length → (∀ q : Nat, B[q]? = some true → B'[q]? = some true) → lacks B' ≤ lacks B
  | [], [], _, _ => Nat.le_refl _
  | [], _ :: _, h, _ => by simp at h
  | _ :: _, [], h, _ => by simp at h
  | b :: B, b' :: B', h, hm => by
    have ih := lacks_mono B B' (by simpa using h) (fun q hq => by have := hm (q + 1) (by simpa using hq); simpa using this)
    have h0 := hm 0
    unfold lacks at *
    cases b <;> cases b' <;> simp at h0 ⊢ <;> omega
theorem lacks_set : ∀ (B : List Bool) (i : Nat), B[i]? = some false → lacks (B.set i true) < lacks B
  | [], _, h => by simp at h
  | b :: B, 0, h => by
    have h : b = false := by simpa using h
    subst h
    simp [lacks]
  | b :: B, i + 1, h => by
    have ih := lacks_set B i (by simpa using h)
    unfold lacks at *
    cases b <;> simp <;> omega
/-- Nothing is in it but what is reached, and all of that. -/
theorem spr_all {M : List St} {at_ n : Nat} {B' : List Bool} {i k : Nat} (h : Spr M at_ n (List.replicate k false) i B') (q : Nat) : B'[q]? = some true ↔ Reach M at_ n i q := by
  have hf : ∀ q : Nat, ¬ (List.replicate k false)[q]? = some true := fun q hq => by
    rw [List.getElem?_replicate] at hq
    split at hq <;> cases hq
  constructor
  · intro hq
    rcases h.sound q hq with h1 | h1
    · exact absurd h1 (hf q)
    · exact h1
  · intro hr
    induction hr with
    | refl => exact h.has
    | step _ e ih =>
      rcases h.closed _ ih with h1 | h1
      · exact absurd h1 (hf _)
      · exact h1 _ e
end Go.Proofs.Ytaaikjedagnjbaa

/- The sets that ends goes through are what a machine reaches at each place. Plain. -/
namespace Go.Proofs.Ytaaikjedagnjbaa
open Go Go.Lib

theorem run_le {M : List St} {s : List Nat} {k : Nat} {a b : Nat × Nat} (h : Run M s k a b) : a.2 ≤ b.2 := by
  induction h with
  | nil c => exact Nat.le_refl _
  | cons e r ih =>
    cases e with
    | eps => exact ih
    | take => exact Nat.le_trans (Nat.le_succ _) ih
theorem reach_run {M : List St} {s : List Nat} {i q q' : Nat} (h : Reach M i s.length q q') : ∃ k, Run M s k (q, i) (q', i) := by
  induction h with
  | refl => exact ⟨0, .nil _⟩
  | step _ e ih =>
    obtain ⟨k, hk⟩ := ih
    obtain ⟨st, h1, h2, h3, h4⟩ := e
    exact hk.snoc (.eps h1 h2 h3 h4)
theorem run_reach {M : List St} {s : List Nat} {k : Nat} {a b : Nat × Nat} (h : Run M s k a b) : a.2 = b.2 → Reach M a.2 s.length a.1 b.1 := by
  induction h with
  | nil c => exact fun _ => .refl
  | cons e r ih =>
    intro heq
    cases e with
    | eps h1 h2 h3 h4 => exact .from ⟨_, h1, h2, h3, h4⟩ (ih heq)
    | take h1 h2 h3 h4 h5 =>
      have := run_le r
      dsimp only at this heq
      omega
/-- What a state that is there at a place takes, and where it goes on then. -/
def Takes (M : List St) (c i q : Nat) : Prop := ∃ st f, M[i]? = some st ∧ st.tk = some f ∧ f c = true ∧ st.nx[0]? = some q
theorem run_split {M : List St} {s : List Nat} {k : Nat} {a b : Nat × Nat} (h : Run M s k a b) : ∀ j, a.2 ≤ j → b.2 = j + 1 → ∃ k' p c q1, Run M s k' a (p, j) ∧ s[j]? = some c ∧ Takes M c p q1 ∧ Reach M (j + 1) s.length q1 b.1 := by
  induction h with
  | nil c => intro j h1 h2; omega
  | cons e r ih =>
    intro j h1 h2
    cases e with
    | eps a1 a2 a3 a4 =>
      obtain ⟨k', p, c, q1, x1, x2, x3, x4⟩ := ih j h1 h2
      exact ⟨k' + 1, p, c, q1, .cons (.eps a1 a2 a3 a4) x1, x2, x3, x4⟩
    | take a1 a2 a3 a4 a5 =>
      rename_i q i q' c st f
      dsimp only at h1
      by_cases hij : i = j
      · subst hij
        have hr := run_reach r h2.symm
        exact ⟨0, _, _, _, .nil _, a3, ⟨_, _, a1, a2, a4, a5⟩, hr⟩
      · obtain ⟨k', p, c', q1, x1, x2, x3, x4⟩ := ih j (by dsimp only; omega) h2
        exact ⟨k' + 1, p, c', q1, .cons (.take a1 a2 a3 a4 a5) x1, x2, x3, x4⟩
/-- The set at a place. -/
def NowAt (M : List St) (s : List Nat) (f from_ at_ : Nat) (B : List Bool) : Prop := B.length = M.length ∧ ∀ q : Nat, B[q]? = some true ↔ ∃ k, Run M s k (f, from_) (q, at_)
theorem now_start {M : List St} {s : List Nat} {f from_ : Nat} {B : List Bool} (h : Spr M from_ s.length (List.replicate M.length false) f B) : NowAt M s f from_ from_ B := by
  refine ⟨h.len.trans List.length_replicate, fun q => ?_⟩
  rw [spr_all h q]
  exact ⟨reach_run, fun ⟨k, hk⟩ => run_reach hk rfl⟩
/-- The next set, while the states are gone through. -/
def NextAt (M : List St) (at_ n c : Nat) (B : List Bool) (i : Nat) (Bn : List Bool) : Prop := Bn.length = M.length ∧ ∀ q : Nat, Bn[q]? = some true ↔ ∃ i' q1, i' < i ∧ B[i']? = some true ∧ Takes M c i' q1 ∧ Reach M (at_ + 1) n q1 q
theorem next_start (M : List St) (at_ n c : Nat) (B : List Bool) : NextAt M at_ n c B 0 (List.replicate M.length false) := by
  refine ⟨List.length_replicate, fun q => ?_⟩
  constructor
  · intro h
    rw [List.getElem?_replicate] at h
    split at h <;> cases h
  · rintro ⟨i', _, h, _⟩
    exact absurd h (Nat.not_lt_zero _)
/-- A state that is not there, or takes nothing. -/
theorem next_skip {M : List St} {at_ n c i : Nat} {B Bn : List Bool} (h : NextAt M at_ n c B i Bn) (hno : ∀ q1, B[i]? = some true → ¬ Takes M c i q1) : NextAt M at_ n c B (i + 1) Bn := by
  refine ⟨h.1, fun q => ?_⟩
  rw [h.2 q]
  constructor
  · rintro ⟨i', q1, h1, h2⟩
    exact ⟨i', q1, by omega, h2⟩
  · rintro ⟨i', q1, h1, h2, h3, h4⟩
    rcases Nat.lt_or_ge i' i with h5 | h5
    · exact ⟨i', q1, h5, h2, h3, h4⟩
    · obtain rfl : i' = i := by omega
      exact absurd h3 (hno q1 h2)
theorem takes_one {M : List St} {c i q q' : Nat} (h : Takes M c i q) (h' : Takes M c i q') : q = q' := by
  obtain ⟨st, f, a1, a2, a3, a4⟩ := h
  obtain ⟨st', f', b1, b2, b3, b4⟩ := h'
  rw [a1] at b1
  injection b1 with b1
  subst b1
  rw [a4] at b4
  injection b4
theorem next_take {M : List St} {at_ n c i q1 : Nat} {B Bn B' : List Bool} (h : NextAt M at_ n c B i Bn) (hi : B[i]? = some true) (ht : Takes M c i q1) (s : Spr M (at_ + 1) n Bn q1 B') : NextAt M at_ n c B (i + 1) B' := by
  refine ⟨s.len.trans h.1, fun q => ?_⟩
  constructor
  · intro hq
    rcases s.sound q hq with h1 | h1
    · obtain ⟨i', q2, h2, h3⟩ := (h.2 q).1 h1
      exact ⟨i', q2, by omega, h3⟩
    · exact ⟨i, q1, by omega, hi, ht, h1⟩
  · rintro ⟨i', q2, h1, h2, h3, h4⟩
    have old : ∀ q, Bn[q]? = some true → B'[q]? = some true := s.mono
    rcases Nat.lt_or_ge i' i with h5 | h5
    · exact old q ((h.2 q).2 ⟨i', q2, h5, h2, h3, h4⟩)
    · obtain rfl : i' = i := by omega
      obtain rfl := takes_one h3 ht
      clear h5
      induction h4 with
      | refl => exact s.has
      | step hr e ih =>
        rcases s.closed _ ih with h6 | h6
        · obtain ⟨j, q3, x1, x2, x3, x4⟩ := (h.2 _).1 h6
          exact old _ ((h.2 _).2 ⟨j, q3, x1, x2, x3, .step x4 e⟩)
        · exact h6 _ e
theorem now_next {M : List St} {s : List Nat} {f from_ at_ c : Nat} {B Bn : List Bool} (hB : NowAt M s f from_ at_ B) (hc : s[at_]? = some c) (hle : from_ ≤ at_) (h : NextAt M at_ s.length c B M.length Bn) : NowAt M s f from_ (at_ + 1) Bn := by
  refine ⟨h.1, fun q => ?_⟩
  rw [h.2 q]
  constructor
  · rintro ⟨i, q1, h1, h2, h3, h4⟩
    obtain ⟨k, hk⟩ := (hB.2 i).1 h2
    obtain ⟨st, g, a1, a2, a3, a4⟩ := h3
    obtain ⟨k2, hk2⟩ := hk.snoc (.take a1 a2 hc a3 a4)
    obtain ⟨k3, hk3⟩ := reach_run h4
    exact hk2.trans hk3
  · rintro ⟨k, hk⟩
    obtain ⟨k', p, c', q1, x1, x2, x3, x4⟩ := run_split hk at_ hle rfl
    rw [hc] at x2
    injection x2 with x2
    subst x2
    obtain ⟨st, g, a1, a2, a3, a4⟩ := x3
    exact ⟨p, q1, (List.getElem?_eq_some_iff.1 a1).1, (hB.2 p).2 ⟨k', x1⟩, ⟨st, g, a1, a2, a3, a4⟩, x4⟩
/-- Which of the places a..a+n-1 are told. -/
def told (h : Nat → Bool) (a n : Nat) : List Nat := (List.range' a n).filter h
theorem told_succ (h : Nat → Bool) (a n : Nat) : told h a (n + 1) = told h a n ++ (if h (a + n) then [a + n] else []) := by
  unfold told
  rw [List.range'_concat, List.filter_append, Nat.one_mul]
  congr 1
  simp only [List.filter_cons, List.filter_nil]
end Go.Proofs.Ytaaikjedagnjbaa

