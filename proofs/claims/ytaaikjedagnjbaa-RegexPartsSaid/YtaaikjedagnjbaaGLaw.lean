/- Patterns: what they take of a text; machines of states, and what a part of one takes. Plain. -/
import Derived.Test.YtaaikjedagnjbaaQLaw
namespace Go.Proofs.Ytaaikjedagnjbaa
open Go Go.Lib

inductive Re where
  | eps | seq (a b : Re) | alt (a b : Re) | star (a : Re) | plus (a : Re) | opt (a : Re) | cls (f : Nat → Bool) | bol | eol
/-- What a pattern takes of a text, from a place to a place. -/
inductive Mt (s : List Nat) : Re → Nat → Nat → Prop where
  | eps (i : Nat) : Mt s .eps i i
  | seq {a b : Re} {i j k : Nat} (h1 : Mt s a i j) (h2 : Mt s b j k) : Mt s (.seq a b) i k
  | altl {a b : Re} {i j : Nat} (h : Mt s a i j) : Mt s (.alt a b) i j
  | altr {a b : Re} {i j : Nat} (h : Mt s b i j) : Mt s (.alt a b) i j
  | star0 {a : Re} (i : Nat) : Mt s (.star a) i i
  | star1 {a : Re} {i j k : Nat} (h1 : Mt s a i j) (h2 : Mt s (.star a) j k) : Mt s (.star a) i k
  | plus {a : Re} {i j k : Nat} (h1 : Mt s a i j) (h2 : Mt s (.star a) j k) : Mt s (.plus a) i k
  | opt0 {a : Re} (i : Nat) : Mt s (.opt a) i i
  | opt1 {a : Re} {i j : Nat} (h : Mt s a i j) : Mt s (.opt a) i j
  | cls {f : Nat → Bool} {i c : Nat} (h : s[i]? = some c) (hf : f c = true) : Mt s (.cls f) i (i + 1)
  | bol (i : Nat) (h : i = 0) : Mt s .bol i i
  | eol (i : Nat) (h : i = s.length) : Mt s .eol i i
/-- A state: what rune it takes; or where it goes on at once; to which states. -/
structure St where
  tk : Option (Nat → Bool)
  wh : Option (Nat → Nat → Bool)
  nx : List Nat
/-- One step: a state and a place. -/
inductive Edge (M : List St) (s : List Nat) : Nat × Nat → Nat × Nat → Prop where
  | eps {q i q' : Nat} {st : St} (h : M[q]? = some st) (ht : st.tk = none) (hw : ∀ g, st.wh = some g → g i s.length = true) (hn : q' ∈ st.nx) : Edge M s (q, i) (q', i)
  | take {q i q' c : Nat} {st : St} {f : Nat → Bool} (h : M[q]? = some st) (ht : st.tk = some f) (hc : s[i]? = some c) (hf : f c = true) (hn : st.nx[0]? = some q') : Edge M s (q, i) (q', i + 1)
/-- Some steps. -/
inductive Run (M : List St) (s : List Nat) : Nat → Nat × Nat → Nat × Nat → Prop where
  | nil (c : Nat × Nat) : Run M s 0 c c
  | cons {n : Nat} {c c1 c2 : Nat × Nat} (h : Edge M s c c1) (r : Run M s n c1 c2) : Run M s (n + 1) c c2
variable {M M' : List St} {s : List Nat}
theorem Run.trans {n m : Nat} {a b c : Nat × Nat} (h : Run M s n a b) (h' : Run M s m b c) : ∃ k, Run M s k a c := by
  induction h with
  | nil c => exact ⟨m, h'⟩
  | cons e r ih =>
    obtain ⟨k, hk⟩ := ih h'
    exact ⟨k + 1, .cons e hk⟩
theorem Run.snoc {n : Nat} {a b c : Nat × Nat} (h : Run M s n a b) (e : Edge M s b c) : ∃ k, Run M s k a c := h.trans (.cons e (.nil c))
/-- A state that goes on at once, wherever. -/
def St.plain (st : St) : Prop := st.tk = none ∧ st.wh = none
/-- From a plain state: to one of those behind it, or it is the end. -/
theorem Run.plain {n q i : Nat} {b : Nat × Nat} {st : St} (h : Run M s n (q, i) b) (hq : M[q]? = some st) (hp : st.plain) : b = (q, i) ∨ ∃ q' m, q' ∈ st.nx ∧ n = m + 1 ∧ Run M s m (q', i) b := by
  cases h with
  | nil => exact .inl rfl
  | cons e r =>
    refine .inr ?_
    cases e with
    | eps h ht hw hn =>
      rw [hq] at h
      injection h with h
      subst h
      exact ⟨_, _, hn, rfl, r⟩
    | take h ht hc hf hn =>
      rw [hq] at h
      injection h with h
      subst h
      rw [hp.1] at ht
      cases ht
theorem Run.go {n q i q' : Nat} {b : Nat × Nat} {st : St} (hq : M[q]? = some st) (hp : st.plain) (hn : q' ∈ st.nx) (h : Run M s n (q', i) b) : Run M s (n + 1) (q, i) b :=
  .cons (.eps hq hp.1 (fun g hg => by rw [hp.2] at hg; cases hg) hn) h
/-- Another machine has the same part, but for what lies behind its last state. -/
structure Has (M M' : List St) (lo hi l : Nat) : Prop where
  at_ : ∀ q, lo ≤ q → q < hi → q ≠ l → M'[q]? = M[q]?
  last : ∃ st, M'[l]? = some st ∧ st.plain
/-- A part of a machine, from a first state to a last one: what it takes. -/
structure Frag (M : List St) (lo hi f l : Nat) (r : Re) : Prop where
  hf : lo ≤ f ∧ f < hi
  hl : lo ≤ l ∧ l < hi
  top : hi ≤ M.length
  last : ∃ st, M[l]? = some st ∧ st.plain ∧ st.nx = []
  to : ∀ M' s, Has M M' lo hi l → ∀ i j, Mt s r i j → ∃ n, Run M' s n (f, i) (l, j)
  from_ : ∀ M' s, Has M M' lo hi l → ∀ n i q j, Run M' s n (f, i) (q, j) → (lo ≤ q ∧ q < hi ∧ q ≠ l) ∨ ∃ k n', n' ≤ n ∧ Mt s r i k ∧ Run M' s n' (l, k) (q, j)
  wf : ∀ q st, lo ≤ q → q < hi → M[q]? = some st → (∀ k ∈ st.nx, lo ≤ k ∧ k < hi) ∧ (st.tk ≠ none → st.nx ≠ [])
theorem Has.trans {M'' : List St} {lo hi l lo' hi' l' : Nat} (h : Has M' M'' lo' hi' l') (h1 : ∀ q, lo ≤ q → q < hi → q ≠ l → M'[q]? = M[q]? ∧ lo' ≤ q ∧ q < hi' ∧ q ≠ l')
    (h2 : ∃ st, M''[l]? = some st ∧ st.plain) : Has M M'' lo hi l :=
  ⟨fun q a b c => by
    obtain ⟨e, x, y, z⟩ := h1 q a b c
    rw [h.at_ q x y z, e], h2⟩
theorem Frag.later {lo hi f l : Nat} {r : Re} (h : Frag M lo hi f l r) (hM : ∀ q, lo ≤ q → q < hi → M'[q]? = M[q]?) (hh : hi ≤ M'.length) : Frag M' lo hi f l r := by
  have hl := h.hl
  refine ⟨h.hf, h.hl, hh, ?_, fun M2 s h2 => h.to M2 s (h2.trans (fun q a b c => ⟨hM q a b, a, b, c⟩) h2.last), fun M2 s h2 => h.from_ M2 s (h2.trans (fun q a b c => ⟨hM q a b, a, b, c⟩) h2.last), fun q st a b hst => h.wf q st a b (by rw [← hM q a b]; exact hst)⟩
  obtain ⟨st, h1, h2⟩ := h.last
  exact ⟨st, by rw [hM l hl.1 hl.2, h1], h2⟩
theorem frag_eps {at_ : Nat} (h : M[at_]? = some ⟨none, none, []⟩) : Frag M at_ (at_ + 1) at_ at_ .eps := by
  refine ⟨by omega, by omega, (List.getElem?_eq_some_iff.1 h).1, ⟨_, h, ⟨rfl, rfl⟩, rfl⟩, fun M' s _ i j hm => ?_, fun M' s _ n i q j hr => .inr ⟨i, n, Nat.le_refl _, .eps i, hr⟩, fun q st a b hst => ?_⟩
  rotate_left
  · obtain rfl : q = at_ := by omega
    rw [h] at hst
    injection hst with hst
    subst hst
    exact ⟨by simp, by simp⟩
  cases hm
  exact ⟨0, .nil _⟩
theorem frag_cls {lo : Nat} {g : Nat → Bool} (hl : M[lo]? = some ⟨none, none, []⟩) (hf : M[lo + 1]? = some ⟨some g, none, [lo]⟩) : Frag M lo (lo + 2) (lo + 1) lo (.cls g) := by
  refine ⟨by omega, by omega, (List.getElem?_eq_some_iff.1 hf).1, ⟨_, hl, ⟨rfl, rfl⟩, rfl⟩, fun M' s h i j hm => ?_, fun M' s h n i q j hr => ?_, fun q st x y hst => ?_⟩
  rotate_left 2
  · have hq : q = lo ∨ q = lo + 1 := by omega
    rcases hq with rfl | rfl
    · rw [hl] at hst
      injection hst with hst
      subst hst
      exact ⟨by simp, by simp⟩
    · rw [hf] at hst
      injection hst with hst
      subst hst
      exact ⟨by simp, by simp⟩
  · have h1 := h.at_ (lo + 1) (by omega) (by omega) (by omega)
    rw [hf] at h1
    cases hm with
    | cls hc hg => exact ⟨1, .cons (.take h1 rfl hc hg rfl) (.nil _)⟩
  · have h1 := h.at_ (lo + 1) (by omega) (by omega) (by omega)
    rw [hf] at h1
    cases hr with
    | nil => exact .inl ⟨by omega, by omega, by omega⟩
    | cons e r =>
      cases e with
      | eps h2 ht hw hn =>
        rw [h1] at h2
        injection h2 with h2
        subst h2
        cases ht
      | take h2 ht hc hg hn =>
        rw [h1] at h2
        injection h2 with h2
        subst h2
        injection ht with ht
        injection hn with hn
        subst ht hn
        exact .inr ⟨i + 1, _, Nat.le_succ _, .cls hc hg, r⟩
theorem frag_where {lo : Nat} {g : Nat → Nat → Bool} {r : Re} (hr0 : ∀ s i j, Mt s r i j ↔ j = i ∧ g i s.length = true) (hl : M[lo]? = some ⟨none, none, []⟩) (hf : M[lo + 1]? = some ⟨none, some g, [lo]⟩) : Frag M lo (lo + 2) (lo + 1) lo r := by
  refine ⟨by omega, by omega, (List.getElem?_eq_some_iff.1 hf).1, ⟨_, hl, ⟨rfl, rfl⟩, rfl⟩, fun M' s h i j hm => ?_, fun M' s h n i q j hr => ?_, fun q st x y hst => ?_⟩
  rotate_left 2
  · have hq : q = lo ∨ q = lo + 1 := by omega
    rcases hq with rfl | rfl
    · rw [hl] at hst
      injection hst with hst
      subst hst
      exact ⟨by simp, by simp⟩
    · rw [hf] at hst
      injection hst with hst
      subst hst
      exact ⟨by simp, by simp⟩
  · have h1 := h.at_ (lo + 1) (by omega) (by omega) (by omega)
    rw [hf] at h1
    obtain ⟨rfl, hg⟩ := (hr0 s i j).1 hm
    exact ⟨1, .cons (.eps h1 rfl (fun g' e => by injection e with e; subst e; exact hg) (by simp)) (.nil _)⟩
  · have h1 := h.at_ (lo + 1) (by omega) (by omega) (by omega)
    rw [hf] at h1
    cases hr with
    | nil => exact .inl ⟨by omega, by omega, by omega⟩
    | cons e r =>
      cases e with
      | eps h2 ht hw hn =>
        rw [h1] at h2
        injection h2 with h2
        subst h2
        have hn := List.mem_singleton.1 hn
        subst hn
        exact .inr ⟨i, _, Nat.le_succ _, (hr0 s i i).2 ⟨rfl, hw g rfl⟩, r⟩
      | take h2 ht hc hg hn =>
        rw [h1] at h2
        injection h2 with h2
        subst h2
        cases ht
theorem mt_bol (s : List Nat) (i j : Nat) : Mt s .bol i j ↔ j = i ∧ (decide (i = 0)) = true := by
  constructor
  · intro h
    cases h with
    | bol _ h => exact ⟨rfl, decide_eq_true h⟩
  · rintro ⟨rfl, h⟩
    exact .bol _ (of_decide_eq_true h)
theorem mt_eol (s : List Nat) (i j : Nat) : Mt s .eol i j ↔ j = i ∧ (decide (i = s.length)) = true := by
  constructor
  · intro h
    cases h with
    | eol _ h => exact ⟨rfl, decide_eq_true h⟩
  · rintro ⟨rfl, h⟩
    exact .eol _ (of_decide_eq_true h)
/-- One behind the other. -/
theorem frag_seq {lo mid hi f l f2 l2 : Nat} {a b : Re} (ha : Frag M lo mid f l a) (hb : Frag M mid hi f2 l2 b)
    (hM : ∀ q, lo ≤ q → q < hi → q ≠ l → M'[q]? = M[q]?) (hl : M'[l]? = some ⟨none, none, [f2]⟩) (hh : hi ≤ M'.length) : Frag M' lo hi f l2 (.seq a b) := by
  have a1 := ha.hf
  have a2 := ha.hl
  have b1 := hb.hf
  have b2 := hb.hl
  refine ⟨by omega, by omega, hh, ?_, fun M2 s h i j hm => ?_, fun M2 s h n i q j hr => ?_, fun q st x y hst => ?_⟩
  rotate_left 3
  · by_cases hq : q = l
    · subst hq
      rw [hl] at hst
      injection hst with hst
      subst hst
      exact ⟨fun k hk => by rw [List.mem_singleton.1 hk]; omega, by simp⟩
    · rw [hM q x y hq] at hst
      rcases Nat.lt_or_ge q mid with h | h
      · obtain ⟨w1, w2⟩ := ha.wf q st x h hst
        exact ⟨fun k hk => by have := w1 k hk; omega, w2⟩
      · obtain ⟨w1, w2⟩ := hb.wf q st h y hst
        exact ⟨fun k hk => by have := w1 k hk; omega, w2⟩
  · obtain ⟨st, h1, h2⟩ := hb.last
    exact ⟨st, by rw [hM l2 (by omega) (by omega) (by omega), h1], h2⟩
  all_goals
    have el : M2[l]? = some ⟨none, none, [f2]⟩ := by rw [h.at_ l (by omega) (by omega) (by omega), hl]
    have gA : Has M M2 lo mid l := h.trans (fun q x y z => ⟨hM q x (by omega) z, x, by omega, by omega⟩) ⟨_, el, rfl, rfl⟩
    have gB : Has M M2 mid hi l2 := h.trans (fun q x y z => ⟨hM q (by omega) y (by omega), by omega, y, z⟩) h.last
  · cases hm with
    | seq h1 h2 =>
      obtain ⟨n1, r1⟩ := ha.to M2 s gA _ _ h1
      obtain ⟨n2, r2⟩ := hb.to M2 s gB _ _ h2
      exact r1.trans (Run.go el ⟨rfl, rfl⟩ (by simp) r2)
  · rcases ha.from_ M2 s gA n i q j hr with ⟨x, y, z⟩ | ⟨k, n', hn', hm, hr'⟩
    · exact .inl ⟨by omega, by omega, by omega⟩
    · rcases hr'.plain el ⟨rfl, rfl⟩ with e | ⟨q', m, hq', rfl, hr2⟩
      · injection e with e1 e2
        subst e1
        exact .inl ⟨by omega, by omega, by omega⟩
      · have hq' : q' = f2 := by simpa using hq'
        subst hq'
        rcases hb.from_ M2 s gB m k q j hr2 with ⟨x, y, z⟩ | ⟨k2, n2, hn2, hm2, hr3⟩
        · exact .inl ⟨by omega, by omega, by omega⟩
        · exact .inr ⟨k2, n2, by omega, .seq hm hm2, hr3⟩
/-- Either. -/
theorem frag_alt {lo mid hi f l f2 l2 : Nat} {a b : Re} (ha : Frag M lo mid f l a) (hb : Frag M mid hi f2 l2 b)
    (hM : ∀ q, lo ≤ q → q < hi → q ≠ l → q ≠ l2 → M'[q]? = M[q]?) (h1 : M'[l]? = some ⟨none, none, [hi]⟩) (h2 : M'[l2]? = some ⟨none, none, [hi]⟩)
    (h3 : M'[hi]? = some ⟨none, none, []⟩) (h4 : M'[hi + 1]? = some ⟨none, none, [f, f2]⟩) : Frag M' lo (hi + 2) (hi + 1) hi (.alt a b) := by
  have a1 := ha.hf
  have a2 := ha.hl
  have b1 := hb.hf
  have b2 := hb.hl
  refine ⟨by omega, by omega, (List.getElem?_eq_some_iff.1 h4).1, ⟨_, h3, ⟨rfl, rfl⟩, rfl⟩, fun M2 s h i j hm => ?_, fun M2 s h n i q j hr => ?_, fun q st x y hst => ?_⟩
  rotate_left 2
  · by_cases hq1 : q = l
    · subst hq1
      rw [h1] at hst
      injection hst with hst
      subst hst
      exact ⟨fun k hk => by rw [List.mem_singleton.1 hk]; omega, by simp⟩
    · by_cases hq2 : q = l2
      · subst hq2
        rw [h2] at hst
        injection hst with hst
        subst hst
        exact ⟨fun k hk => by rw [List.mem_singleton.1 hk]; omega, by simp⟩
      · rcases (show q < mid ∨ (mid ≤ q ∧ q < hi) ∨ q = hi ∨ q = hi + 1 by omega) with h | h | rfl | rfl
        · rw [hM q x (by omega) hq1 hq2] at hst
          obtain ⟨w1, w2⟩ := ha.wf q st x h hst
          exact ⟨fun k hk => by have := w1 k hk; omega, w2⟩
        · rw [hM q x h.2 hq1 hq2] at hst
          obtain ⟨w1, w2⟩ := hb.wf q st h.1 h.2 hst
          exact ⟨fun k hk => by have := w1 k hk; omega, w2⟩
        · rw [h3] at hst
          injection hst with hst
          subst hst
          exact ⟨by simp, by simp⟩
        · rw [h4] at hst
          injection hst with hst
          subst hst
          refine ⟨fun k hk => ?_, by simp⟩
          have hk : k = f ∨ k = f2 := by simpa using hk
          omega
  all_goals
    have el : M2[l]? = some ⟨none, none, [hi]⟩ := by rw [h.at_ l (by omega) (by omega) (by omega), h1]
    have el2 : M2[l2]? = some ⟨none, none, [hi]⟩ := by rw [h.at_ l2 (by omega) (by omega) (by omega), h2]
    have ef : M2[hi + 1]? = some ⟨none, none, [f, f2]⟩ := by rw [h.at_ (hi + 1) (by omega) (by omega) (by omega), h4]
    have gA : Has M M2 lo mid l := h.trans (fun q x y z => ⟨hM q x (by omega) z (by omega), x, by omega, by omega⟩) ⟨_, el, rfl, rfl⟩
    have gB : Has M M2 mid hi l2 := h.trans (fun q x y z => ⟨hM q (by omega) y (by omega) z, by omega, by omega, by omega⟩) ⟨_, el2, rfl, rfl⟩
  · cases hm with
    | altl hm =>
      obtain ⟨n1, r1⟩ := ha.to M2 s gA _ _ hm
      obtain ⟨n2, r2⟩ := r1.trans (Run.go el ⟨rfl, rfl⟩ (List.mem_singleton.2 rfl) (.nil _))
      exact ⟨_, Run.go ef ⟨rfl, rfl⟩ (by simp) r2⟩
    | altr hm =>
      obtain ⟨n1, r1⟩ := hb.to M2 s gB _ _ hm
      obtain ⟨n2, r2⟩ := r1.trans (Run.go el2 ⟨rfl, rfl⟩ (List.mem_singleton.2 rfl) (.nil _))
      exact ⟨_, Run.go ef ⟨rfl, rfl⟩ (by simp) r2⟩
  · rcases hr.plain ef ⟨rfl, rfl⟩ with e | ⟨q', m, hq', rfl, hr1⟩
    · injection e with e1 e2
      exact .inl ⟨by omega, by omega, by omega⟩
    · have hq' : q' = f ∨ q' = f2 := by simpa using hq'
      have fin : ∀ (l : Nat) (k n' : Nat), M2[l]? = some ⟨none, none, [hi]⟩ → lo ≤ l → l < hi → n' ≤ m → Mt s (.alt a b) i k → Run M2 s n' (l, k) (q, j) →
          (lo ≤ q ∧ q < hi + 2 ∧ q ≠ hi) ∨ ∃ k n', n' ≤ m + 1 ∧ Mt s (.alt a b) i k ∧ Run M2 s n' (hi, k) (q, j) := by
        intro l k n' el hlo hlh hn' hm hr'
        rcases hr'.plain el ⟨rfl, rfl⟩ with e | ⟨q', m', hq', rfl, hr2⟩
        · injection e with e1 e2
          exact .inl ⟨by omega, by omega, by omega⟩
        · have hq' : q' = hi := by simpa using hq'
          subst hq'
          exact .inr ⟨k, m', by omega, hm, hr2⟩
      rcases hq' with rfl | rfl
      · rcases ha.from_ M2 s gA m i q j hr1 with ⟨x, y, z⟩ | ⟨k, n', hn', hm, hr'⟩
        · exact .inl ⟨by omega, by omega, by omega⟩
        · exact fin l k n' el (by omega) (by omega) hn' (.altl hm) hr'
      · rcases hb.from_ M2 s gB m i q j hr1 with ⟨x, y, z⟩ | ⟨k, n', hn', hm, hr'⟩
        · exact .inl ⟨by omega, by omega, by omega⟩
        · exact fin l2 k n' el2 (by omega) (by omega) hn' (.altr hm) hr'
theorem star_snoc {a : Re} {i j k : Nat} (h : Mt s (.star a) i j) (h2 : Mt s a j k) : Mt s (.star a) i k := by
  generalize hr : Re.star a = r at h
  induction h with
  | star0 i => injection hr with hr; subst hr; exact .star1 h2 (.star0 _)
  | star1 h1 _ _ ih => injection hr with hr; subst hr; exact .star1 h1 (ih h2 rfl)
  | _ => cases hr
/-- A part as often as it likes, or once at least, or once at most. -/
inductive Sign where
  | star | plus | opt
deriving DecidableEq
def Sign.re : Sign → Re → Re
  | .star => .star
  | .plus => .plus
  | .opt => .opt
theorem frag_many {lo hi f l : Nat} {a : Re} (g : Sign) (ha : Frag M lo hi f l a) (hM : ∀ q, lo ≤ q → q < hi → q ≠ l → M'[q]? = M[q]?)
    (h1 : M'[l]? = some ⟨none, none, if g = .opt then [hi] else [hi, f]⟩) (h3 : M'[hi]? = some ⟨none, none, []⟩) (h4 : M'[hi + 1]? = some ⟨none, none, if g = .plus then [f] else [f, hi]⟩) :
    Frag M' lo (hi + 2) (hi + 1) hi (g.re a) := by
  have a1 := ha.hf
  have a2 := ha.hl
  refine ⟨by omega, by omega, (List.getElem?_eq_some_iff.1 h4).1, ⟨_, h3, ⟨rfl, rfl⟩, rfl⟩, fun M2 s h i j hm => ?_, fun M2 s h n i q j hr => ?_, fun q st x y hst => ?_⟩
  rotate_left 2
  · by_cases hq1 : q = l
    · subst hq1
      rw [h1] at hst
      injection hst with hst
      subst hst
      refine ⟨fun k hk => ?_, by cases g <;> simp⟩
      have hk : k = hi ∨ k = f := by
        cases g <;> simp at hk <;> omega
      omega
    · rcases (show q < hi ∨ q = hi ∨ q = hi + 1 by omega) with h | rfl | rfl
      · rw [hM q x h hq1] at hst
        obtain ⟨w1, w2⟩ := ha.wf q st x h hst
        exact ⟨fun k hk => by have := w1 k hk; omega, w2⟩
      · rw [h3] at hst
        injection hst with hst
        subst hst
        exact ⟨by simp, by simp⟩
      · rw [h4] at hst
        injection hst with hst
        subst hst
        refine ⟨fun k hk => ?_, by cases g <;> simp⟩
        have hk : k = hi ∨ k = f := by
          cases g <;> simp at hk <;> omega
        omega
  all_goals
    have el : M2[l]? = some ⟨none, none, if g = .opt then [hi] else [hi, f]⟩ := by rw [h.at_ l (by omega) (by omega) (by omega), h1]
    have ef : M2[hi + 1]? = some ⟨none, none, if g = .plus then [f] else [f, hi]⟩ := by rw [h.at_ (hi + 1) (by omega) (by omega) (by omega), h4]
    have gA : Has M M2 lo hi l := h.trans (fun q x y z => ⟨hM q x (by omega) z, x, by omega, by omega⟩) ⟨_, el, rfl, rfl⟩
  · have out : ∀ k, Run M2 s 1 (l, k) (hi, k) := fun k => Run.go el ⟨rfl, rfl⟩ (by cases g <;> simp) (.nil _)
    have loop : ∀ i j, Mt s (.star a) i j → g ≠ .opt → ∃ n, Run M2 s n (l, i) (hi, j) := by
      intro i j hm hg
      generalize hr : Re.star a = r at hm
      induction hm with
      | star0 i => exact ⟨1, out _⟩
      | star1 h1 _ _ ih =>
        injection hr with hr
        subst hr
        obtain ⟨n2, r2⟩ := ih rfl
        obtain ⟨n1, r1⟩ := ha.to M2 s gA _ _ h1
        obtain ⟨n3, r3⟩ := r1.trans r2
        exact ⟨_, Run.go el ⟨rfl, rfl⟩ (by rw [if_neg hg]; simp) r3⟩
      | _ => cases hr
    cases g with
    | star =>
      cases hm with
      | star0 => exact ⟨_, Run.go ef ⟨rfl, rfl⟩ (by simp) (.nil _)⟩
      | star1 hx hy =>
        obtain ⟨n1, r1⟩ := ha.to M2 s gA _ _ hx
        obtain ⟨n2, r2⟩ := loop _ _ hy (by decide)
        obtain ⟨n3, r3⟩ := r1.trans r2
        exact ⟨_, Run.go ef ⟨rfl, rfl⟩ (by simp) r3⟩
    | plus =>
      cases hm with
      | plus hx hy =>
        obtain ⟨n1, r1⟩ := ha.to M2 s gA _ _ hx
        obtain ⟨n2, r2⟩ := loop _ _ hy (by decide)
        obtain ⟨n3, r3⟩ := r1.trans r2
        exact ⟨_, Run.go ef ⟨rfl, rfl⟩ (by simp) r3⟩
    | opt =>
      cases hm with
      | opt0 => exact ⟨_, Run.go ef ⟨rfl, rfl⟩ (by simp) (.nil _)⟩
      | opt1 hx =>
        obtain ⟨n1, r1⟩ := ha.to M2 s gA _ _ hx
        obtain ⟨n3, r3⟩ := r1.trans (out _)
        exact ⟨_, Run.go ef ⟨rfl, rfl⟩ (by simp) r3⟩
  · -- what was taken so far: some times, then from the part's last state on
    have loop : ∀ (n : Nat) (i0 k : Nat), Mt s (.star a) i0 k → Run M2 s n (f, k) (q, j) → g ≠ .opt →
        (lo ≤ q ∧ q < hi + 2 ∧ q ≠ hi) ∨ ∃ k1 k2 n', n' ≤ n ∧ Mt s (.star a) i0 k1 ∧ Mt s a k1 k2 ∧ Run M2 s n' (hi, k2) (q, j) := by
      intro n
      induction n using Nat.strongRecOn with
      | ind n ih =>
        intro i0 k hs hr hg
        rcases ha.from_ M2 s gA n k q j hr with ⟨x, y, z⟩ | ⟨k2, n', hn', hm, hr'⟩
        · exact .inl ⟨by omega, by omega, by omega⟩
        · rcases hr'.plain el ⟨rfl, rfl⟩ with e | ⟨q', m, hq', rfl, hr2⟩
          · injection e with e1 e2
            exact .inl ⟨by omega, by omega, by omega⟩
          · rw [if_neg hg] at hq'
            have hq' : q' = hi ∨ q' = f := by simpa using hq'
            rcases hq' with rfl | rfl
            · exact .inr ⟨k, k2, m, by omega, hs, hm, hr2⟩
            · rcases ih m (by omega) i0 k2 (star_snoc hs hm) hr2 hg with h | ⟨k3, k4, n4, h1, h2, h3, h4⟩
              · exact .inl h
              · exact .inr ⟨k3, k4, n4, by omega, h2, h3, h4⟩
    rcases hr.plain ef ⟨rfl, rfl⟩ with e | ⟨q', m, hq', rfl, hr1⟩
    · injection e with e1 e2
      exact .inl ⟨by omega, by omega, by omega⟩
    · have hq'' : q' = f ∨ (q' = hi ∧ g ≠ .plus) := by
        split at hq'
        · exact .inl (by simpa using hq')
        · rename_i hg
          have : q' = f ∨ q' = hi := by simpa using hq'
          exact this.imp_right fun h => ⟨h, hg⟩
      rcases hq'' with rfl | ⟨rfl, hg⟩
      · cases g with
        | opt =>
          rcases ha.from_ M2 s gA m i q j hr1 with ⟨x, y, z⟩ | ⟨k2, n', hn', hm, hr'⟩
          · exact .inl ⟨by omega, by omega, by omega⟩
          · rcases hr'.plain el ⟨rfl, rfl⟩ with e | ⟨q', m', hq', rfl, hr2⟩
            · injection e with e1 e2
              exact .inl ⟨by omega, by omega, by omega⟩
            · have hq' : q' = hi := by simpa using hq'
              subst hq'
              exact .inr ⟨k2, m', by omega, .opt1 hm, hr2⟩
        | star =>
          rcases loop m i i (.star0 _) hr1 (by decide) with h | ⟨k1, k2, n', h1, h2, h3, h4⟩
          · exact .inl h
          · exact .inr ⟨k2, n', by omega, star_snoc h2 h3, h4⟩
        | plus =>
          rcases loop m i i (.star0 _) hr1 (by decide) with h | ⟨k1, k2, n', h1, h2, h3, h4⟩
          · exact .inl h
          · refine .inr ⟨k2, n', by omega, ?_, h4⟩
            cases h2 with
            | star0 => exact .plus h3 (.star0 _)
            | star1 hx hy => exact .plus hx (star_snoc hy h3)
      · refine .inr ⟨i, m, by omega, ?_, hr1⟩
        cases g with
        | star => exact .star0 _
        | opt => exact .opt0 _
        | plus => exact absurd rfl hg
/-- A machine that is one part takes what its pattern does. -/
theorem Frag.takes {lo hi f l : Nat} {r : Re} (h : Frag M lo hi f l r) (i j : Nat) : (∃ n, Run M s n (f, i) (l, j)) ↔ Mt s r i j := by
  obtain ⟨st, h1, h2, h3⟩ := h.last
  have hh : Has M M lo hi l := ⟨fun _ _ _ _ => rfl, st, h1, h2⟩
  constructor
  · rintro ⟨n, hr⟩
    rcases h.from_ M s hh n i l j hr with ⟨_, _, hne⟩ | ⟨k, n', _, hm, hr'⟩
    · exact absurd rfl hne
    · rcases hr'.plain h1 h2 with e | ⟨q', m, hq', _⟩
      · injection e with e1 e2
        subst e2
        exact hm
      · rw [h3] at hq'
        cases hq'
  · exact h.to M s hh i j
end Go.Proofs.Ytaaikjedagnjbaa
