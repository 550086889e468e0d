/- Patterns read: which texts are patterns, and what they mean. Plain. -/
import Derived.Test.YtaaikjedagnjbaaGLaw
namespace Go.Proofs.Ytaaikjedagnjbaa
open Go Go.Lib

/-- What a letter behind a backslash stands for: runes from first to last ones. -/
def classR (c : Nat) : List (Nat × Nat) :=
  if c = 100 then [(48, 57)] else if c = 119 then [(48, 57), (97, 122), (65, 90), (95, 95)] else if c = 115 then [(32, 32), (9, 9), (10, 10), (13, 13)] else []
/-- Whether a rune is in one of some spans. -/
def inR (l : List (Nat × Nat)) (c : Nat) : Bool := l.any fun s => decide (s.1 ≤ c) && decide (c ≤ s.2)
/-- What a rune behind a backslash stands for. -/
def escR (c : Nat) : Option Nat := if c = 110 then some 10 else if c = 116 then some 9 else if c ≤ 32 ∨ 126 < c ∨ inR [(48, 57), (97, 122), (65, 90)] c = true then none else some c
/-- A rune of items. -/
def singleR : List Nat → Option (Nat × List Nat)
  | [] => none
  | c :: r => if c = 92 then (match r with | [] => none | d :: r' => (escR d).map fun x => (x, r')) else if c = 91 ∨ c = 93 ∨ c = 94 ∨ c = 45 then none else some (c, r)
/-- One item: its spans. -/
def itemR (l : List Nat) : Option (List (Nat × Nat) × List Nat) :=
  if l.head? = some 92 ∧ classR ((l.drop 1).headD 0) ≠ [] then some (classR ((l.drop 1).headD 0), l.drop 2)
  else match singleR l with
    | none => none
    | some (lo, r) => match r with
      | [] => some ([(lo, lo)], [])
      | c :: r' => if c = 45 then (match singleR r' with | none => none | some (hi, r'') => if hi < lo then none else some ([(lo, hi)], r'')) else some ([(lo, lo)], c :: r')
def itemsR : Nat → List (Nat × Nat) → List Nat → Option (List (Nat × Nat) × List Nat)
  | 0, _, _ => none
  | f + 1, acc, l => match l with
    | [] => none
    | c :: r => if c = 93 then some (acc, r) else match itemR (c :: r) with
      | none => none
      | some (x, l1) => itemsR f (acc ++ x) l1
/-- Behind a bracket. -/
def brackR (l : List Nat) : Option (Re × List Nat) :=
  match itemsR (l.length + 1) [] (if l.head? = some 94 then l.drop 1 else l) with
  | none => none
  | some (s, l1) => if s = [] then none else some (.cls fun c => inR s c != decide (l.head? = some 94), l1)
/-- Behind a backslash. -/
def slashR : List Nat → Option (Re × List Nat)
  | [] => none
  | e :: r => if classR e ≠ [] then some (.cls (inR (classR e)), r) else (escR e).map fun x => (.cls fun c => decide (c = x), r)
/-- The runes that stand for something else. -/
def markR (c : Nat) : Bool := decide (c = 41) || decide (c = 93) || decide (c = 123) || decide (c = 125) || decide (c = 42) || decide (c = 43) || decide (c = 63) || decide (c = 124)
/-- A sign behind an atom. -/
def signR (r : Re) : List Nat → Re × List Nat
  | [] => (r, [])
  | c :: l => if c = 42 then (.star r, l) else if c = 43 then (.plus r, l) else if c = 63 then (.opt r, l) else (r, c :: l)
mutual
def altF : Nat → Nat → List Nat → Option (Re × List Nat)
  | 0, _, _ => none
  | f + 1, d, l => match seqF f d .eps l with
    | none => none
    | some (r, l1) => barF f d r l1
def barF : Nat → Nat → Re → List Nat → Option (Re × List Nat)
  | 0, _, _, _ => none
  | f + 1, d, r, l => match l with
    | [] => some (r, [])
    | c :: l1 => if c = 124 then (match seqF f d .eps l1 with | none => none | some (r2, l2) => barF f d (.alt r r2) l2) else some (r, c :: l1)
def seqF : Nat → Nat → Re → List Nat → Option (Re × List Nat)
  | 0, _, _, _ => none
  | f + 1, d, acc, l => match l with
    | [] => some (acc, [])
    | c :: l1 => if c = 124 ∨ c = 41 then some (acc, c :: l1) else match atomF f d (c :: l1) with
      | none => none
      | some (r, l2) => seqF f d (.seq acc (signR r l2).1) (signR r l2).2
def atomF : Nat → Nat → List Nat → Option (Re × List Nat)
  | 0, _, _ => none
  | f + 1, d, l => match l with
    | [] => none
    | c :: l1 => if c = 40 then (if 6 ≤ d then none else match altF f (d + 1) l1 with
        | none => none
        | some (r, l2) => match l2 with
          | [] => none
          | e :: l3 => if e = 41 then some (r, l3) else none)
      else if c = 91 then brackR l1 else if c = 46 then some (.cls fun x => decide (x ≠ 10), l1) else if c = 94 then some (.bol, l1) else if c = 36 then some (.eol, l1)
      else if c = 92 then slashR l1 else if markR c then none else some (.cls fun x => decide (x = c), l1)
end
theorem single_cons (c : Nat) (r : List Nat) : singleR (c :: r) = if c = 92 then (match r with | [] => none | d :: r' => (escR d).map fun x => (x, r')) else if c = 91 ∨ c = 93 ∨ c = 94 ∨ c = 45 then none else some (c, r) := rfl
theorem slash_cons (e : Nat) (r : List Nat) : slashR (e :: r) = if classR e ≠ [] then some (.cls (inR (classR e)), r) else (escR e).map fun x => (.cls fun c => decide (c = x), r) := rfl
theorem sign_cons (r : Re) (c : Nat) (l : List Nat) : signR r (c :: l) = if c = 42 then (.star r, l) else if c = 43 then (.plus r, l) else if c = 63 then (.opt r, l) else (r, c :: l) := rfl
theorem single_len {l r : List Nat} {x : Nat} (h : singleR l = some (x, r)) : r.length < l.length := by
  cases l with
  | nil => cases h
  | cons c l =>
    rw [single_cons] at h
    split at h
    · cases l with
      | nil => cases h
      | cons d r' =>
        have h : (escR d).map (fun x => (x, r')) = some (x, r) := h
        obtain ⟨y, hy, e⟩ := Option.map_eq_some_iff.1 h
        injection e with _ e
        subst e
        simp
        omega
    · split at h
      · cases h
      · injection h with h
        injection h with _ h
        subst h
        simp
theorem item_len {l r : List Nat} {x : List (Nat × Nat)} (h : itemR l = some (x, r)) : r.length < l.length := by
  unfold itemR at h
  split at h
  · rename_i h1
    injection h with h
    injection h with _ h
    subst h
    cases l with
    | nil => cases h1.1
    | cons c l => simp; omega
  · split at h
    · cases h
    · rename_i lo r1 hs
      have h1 := single_len hs
      cases r1 with
      | nil =>
        injection h with h
        injection h with _ h
        subst h
        simpa using h1
      | cons c r' =>
        dsimp only at h
        split at h
        · split at h
          · cases h
          · rename_i hi r'' hs2
            have h2 := single_len hs2
            split at h
            · cases h
            · injection h with h
              injection h with _ h
              subst h
              simp at h1
              omega
        · injection h with h
          injection h with _ h
          subst h
          exact h1
theorem items_len : ∀ (f : Nat) (acc : List (Nat × Nat)) (l : List Nat) (x : List (Nat × Nat)) (r : List Nat), itemsR f acc l = some (x, r) → r.length < l.length
  | 0, _, _, _, _, h => by cases h
  | f + 1, acc, l, x, r, h => by
    unfold itemsR at h
    cases l with
    | nil => cases h
    | cons c l =>
      dsimp only at h
      split at h
      · injection h with h
        injection h with _ h
        subst h
        simp
      · split at h
        · cases h
        · rename_i y l1 hi
          have h1 := item_len hi
          have h2 := items_len f _ _ _ _ h
          omega
/-- More rounds tell nothing else. -/
theorem items_fuel : ∀ (f g : Nat) (acc : List (Nat × Nat)) (l : List Nat), l.length < f → l.length < g → itemsR f acc l = itemsR g acc l
  | 0, _, _, _, h, _ => absurd h (Nat.not_lt_zero _)
  | _, 0, _, _, _, h => absurd h (Nat.not_lt_zero _)
  | f + 1, g + 1, acc, l, h1, h2 => by
    unfold itemsR
    cases l with
    | nil => rfl
    | cons c l =>
      dsimp only
      split
      · rfl
      · cases hi : itemR (c :: l) with
        | none => rfl
        | some p =>
          obtain ⟨x, l1⟩ := p
          have := item_len hi
          exact items_fuel f g _ _ (by omega) (by omega)
theorem brack_len {l r : List Nat} {x : Re} (h : brackR l = some (x, r)) : r.length < l.length := by
  unfold brackR at h
  split at h
  · cases h
  · rename_i s l1 hi
    have h1 := items_len _ _ _ _ _ hi
    split at h
    · cases h
    · injection h with h
      injection h with _ h
      subst h
      split at h1
      · rw [List.length_drop] at h1; omega
      · exact h1
theorem slash_len {l r : List Nat} {x : Re} (h : slashR l = some (x, r)) : r.length < l.length := by
  cases l with
  | nil => cases h
  | cons c l =>
    rw [slash_cons] at h
    split at h
    · injection h with h
      injection h with _ h
      subst h
      simp
    · obtain ⟨y, hy, e⟩ := Option.map_eq_some_iff.1 h
      injection e with _ e
      subst e
      simp
theorem sign_len (r : Re) (l : List Nat) : (signR r l).2.length ≤ l.length := by
  cases l with
  | nil => simp [signR]
  | cons c l =>
    rw [sign_cons]
    split
    · simp
    · split
      · simp
      · split <;> simp
theorem rest_len : ∀ f : Nat, (∀ d l x r, altF f d l = some (x, r) → r.length ≤ l.length) ∧ (∀ d a l x r, barF f d a l = some (x, r) → r.length ≤ l.length) ∧
    (∀ d a l x r, seqF f d a l = some (x, r) → r.length ≤ l.length) ∧ (∀ d l x r, atomF f d l = some (x, r) → r.length < l.length) := by
  intro f
  induction f with
  | zero => exact ⟨fun d l x r h => (by unfold altF at h; cases h), fun d a l x r h => (by unfold barF at h; cases h), fun d a l x r h => (by unfold seqF at h; cases h), fun d l x r h => (by unfold atomF at h; cases h)⟩
  | succ f ih =>
    obtain ⟨ih1, ih2, ih3, ih4⟩ := ih
    refine ⟨fun d l x r h => ?_, fun d a l x r h => ?_, fun d a l x r h => ?_, fun d l x r h => ?_⟩
    · unfold altF at h
      split at h
      · cases h
      · rename_i r1 l1 hs
        have h1 := ih3 _ _ _ _ _ hs
        have h2 := ih2 _ _ _ _ _ h
        omega
    · unfold barF at h
      cases l with
      | nil =>
        injection h with h
        injection h with _ h
        subst h
        exact Nat.le_refl _
      | cons c l =>
        dsimp only at h
        split at h
        · split at h
          · cases h
          · rename_i r2 l2 hs
            have h1 := ih3 _ _ _ _ _ hs
            have h2 := ih2 _ _ _ _ _ h
            simp
            omega
        · injection h with h
          injection h with _ h
          subst h
          exact Nat.le_refl _
    · unfold seqF at h
      cases l with
      | nil =>
        injection h with h
        injection h with _ h
        subst h
        exact Nat.le_refl _
      | cons c l =>
        dsimp only at h
        split at h
        · injection h with h
          injection h with _ h
          subst h
          exact Nat.le_refl _
        · split at h
          · cases h
          · rename_i r1 l2 hs
            have h1 := ih4 _ _ _ _ hs
            have h2 := ih3 _ _ _ _ _ h
            have h3 := sign_len r1 l2
            omega
    · unfold atomF at h
      cases l with
      | nil => cases h
      | cons c l =>
        have hcons : ∀ {y : Re} {q : List Nat}, some (y, q) = some (x, r) → q.length < (c :: l).length → r.length < (c :: l).length := by
          intro y q e hq
          injection e with e
          injection e with _ e
          rw [← e]
          exact hq
        dsimp only at h
        split at h
        · split at h
          · cases h
          · split at h
            · cases h
            · rename_i r1 l2 hs
              have h1 := ih1 _ _ _ _ hs
              cases l2 with
              | nil => cases h
              | cons e l3 =>
                dsimp only at h
                split at h
                · exact hcons h (by simp at h1 ⊢; omega)
                · cases h
        · split at h
          · have := brack_len h; simp; omega
          · split at h
            · exact hcons h (by simp)
            · split at h
              · exact hcons h (by simp)
              · split at h
                · exact hcons h (by simp)
                · split at h
                  · have := slash_len h; simp; omega
                  · split at h
                    · cases h
                    · exact hcons h (by simp)
/-- More rounds tell nothing else. -/
theorem fuel_any : ∀ n : Nat, (∀ f g d l, l.length ≤ n → 4 * l.length + 4 ≤ f → 4 * l.length + 4 ≤ g → altF f d l = altF g d l) ∧ (∀ f g d a l, l.length ≤ n → 4 * l.length + 3 ≤ f → 4 * l.length + 3 ≤ g → barF f d a l = barF g d a l) ∧
    (∀ f g d a l, l.length ≤ n → 4 * l.length + 3 ≤ f → 4 * l.length + 3 ≤ g → seqF f d a l = seqF g d a l) ∧ (∀ f g d l, l.length ≤ n → 4 * l.length + 1 ≤ f → 4 * l.length + 1 ≤ g → atomF f d l = atomF g d l) := by
  intro n
  induction n using Nat.strongRecOn with
  | ind n ih =>
    have hatom : ∀ f g d l, l.length ≤ n → 4 * l.length + 1 ≤ f → 4 * l.length + 1 ≤ g → atomF f d l = atomF g d l := by
      intro f g d l hl hf hg
      obtain ⟨f, rfl⟩ : ∃ k, f = k + 1 := ⟨f - 1, by omega⟩
      obtain ⟨g, rfl⟩ : ∃ k, g = k + 1 := ⟨g - 1, by omega⟩
      unfold atomF
      cases l with
      | nil => rfl
      | cons c l =>
        simp only [List.length_cons] at hl hf hg
        dsimp only
        rw [(ih (n - 1) (by omega)).1 f g (d + 1) l (by omega) (by omega) (by omega)]
    have hseq : ∀ (k : Nat), ∀ f g d a l, l.length ≤ k → k ≤ n → 4 * l.length + 3 ≤ f → 4 * l.length + 3 ≤ g → seqF f d a l = seqF g d a l := by
      intro k
      induction k with
      | zero =>
        intro f g d a l hl _ hf hg
        obtain ⟨f, rfl⟩ : ∃ k, f = k + 1 := ⟨f - 1, by omega⟩
        obtain ⟨g, rfl⟩ : ∃ k, g = k + 1 := ⟨g - 1, by omega⟩
        unfold seqF
        have : l = [] := List.eq_nil_of_length_eq_zero (by omega)
        subst this
        rfl
      | succ k ihk =>
        intro f g d a l hl hk hf hg
        obtain ⟨f, rfl⟩ : ∃ k, f = k + 1 := ⟨f - 1, by omega⟩
        obtain ⟨g, rfl⟩ : ∃ k, g = k + 1 := ⟨g - 1, by omega⟩
        unfold seqF
        cases l with
        | nil => rfl
        | cons c l =>
          dsimp only
          split
          · rfl
          · rw [hatom f g d (c :: l) (by omega) (by omega) (by omega)]
            cases ha : atomF g d (c :: l) with
            | none => rfl
            | some p =>
              obtain ⟨r, l2⟩ := p
              have h1 := (rest_len g).2.2.2 _ _ _ _ ha
              have h2 := sign_len r l2
              exact ihk f g d _ _ (by omega) (by omega) (by omega) (by omega)
    have hbar : ∀ (k : Nat), ∀ f g d a l, l.length ≤ k → k ≤ n → 4 * l.length + 3 ≤ f → 4 * l.length + 3 ≤ g → barF f d a l = barF g d a l := by
      intro k
      induction k with
      | zero =>
        intro f g d a l hl _ hf hg
        obtain ⟨f, rfl⟩ : ∃ k, f = k + 1 := ⟨f - 1, by omega⟩
        obtain ⟨g, rfl⟩ : ∃ k, g = k + 1 := ⟨g - 1, by omega⟩
        unfold barF
        have : l = [] := List.eq_nil_of_length_eq_zero (by omega)
        subst this
        rfl
      | succ k ihk =>
        intro f g d a l hl hk hf hg
        obtain ⟨f, rfl⟩ : ∃ k, f = k + 1 := ⟨f - 1, by omega⟩
        obtain ⟨g, rfl⟩ : ∃ k, g = k + 1 := ⟨g - 1, by omega⟩
        unfold barF
        cases l with
        | nil => rfl
        | cons c l =>
          simp only [List.length_cons] at hl hf hg
          dsimp only
          split
          · rw [hseq k f g d .eps l (by omega) (by omega) (by omega) (by omega)]
            cases hs : seqF g d .eps l with
            | none => rfl
            | some p =>
              obtain ⟨r2, l2⟩ := p
              have h1 := (rest_len g).2.2.1 _ _ _ _ _ hs
              exact ihk f g d _ _ (by omega) (by omega) (by omega) (by omega)
          · rfl
    refine ⟨fun f g d l hl hf hg => ?_, fun f g d a l hl hf hg => hbar n f g d a l hl (Nat.le_refl _) hf hg, fun f g d a l hl hf hg => hseq n f g d a l hl (Nat.le_refl _) hf hg, hatom⟩
    obtain ⟨f, rfl⟩ : ∃ k, f = k + 1 := ⟨f - 1, by omega⟩
    obtain ⟨g, rfl⟩ : ∃ k, g = k + 1 := ⟨g - 1, by omega⟩
    unfold altF
    rw [hseq n f g d .eps l hl (Nat.le_refl _) (by omega) (by omega)]
    cases hs : seqF g d .eps l with
    | none => rfl
    | some p =>
      obtain ⟨r2, l2⟩ := p
      have h1 := (rest_len g).2.2.1 _ _ _ _ _ hs
      exact hbar n f g d _ _ (by omega) (Nat.le_refl _) (by omega) (by omega)
/-- An alt, what stands behind one, a seq, an atom, at a depth: what they mean, and what is left. -/
def altR (d : Nat) (l : List Nat) : Option (Re × List Nat) := altF (4 * l.length + 4) d l
def barR (d : Nat) (a : Re) (l : List Nat) : Option (Re × List Nat) := barF (4 * l.length + 3) d a l
def seqR (d : Nat) (a : Re) (l : List Nat) : Option (Re × List Nat) := seqF (4 * l.length + 3) d a l
def atomR (d : Nat) (l : List Nat) : Option (Re × List Nat) := atomF (4 * l.length + 1) d l
theorem altR_eq (f d : Nat) (l : List Nat) (h : 4 * l.length + 4 ≤ f) : altF f d l = altR d l := (fuel_any l.length).1 f _ d l (Nat.le_refl _) h (Nat.le_refl _)
theorem barR_eq (f d : Nat) (a : Re) (l : List Nat) (h : 4 * l.length + 3 ≤ f) : barF f d a l = barR d a l := (fuel_any l.length).2.1 f _ d a l (Nat.le_refl _) h (Nat.le_refl _)
theorem seqR_eq (f d : Nat) (a : Re) (l : List Nat) (h : 4 * l.length + 3 ≤ f) : seqF f d a l = seqR d a l := (fuel_any l.length).2.2.1 f _ d a l (Nat.le_refl _) h (Nat.le_refl _)
theorem atomR_eq (f d : Nat) (l : List Nat) (h : 4 * l.length + 1 ≤ f) : atomF f d l = atomR d l := (fuel_any l.length).2.2.2 f _ d l (Nat.le_refl _) h (Nat.le_refl _)
theorem seqR_len {d : Nat} {a x : Re} {l r : List Nat} (h : seqR d a l = some (x, r)) : r.length ≤ l.length := (rest_len _).2.2.1 _ _ _ _ _ h
theorem barR_len {d : Nat} {a x : Re} {l r : List Nat} (h : barR d a l = some (x, r)) : r.length ≤ l.length := (rest_len _).2.1 _ _ _ _ _ h
theorem altR_len {d : Nat} {x : Re} {l r : List Nat} (h : altR d l = some (x, r)) : r.length ≤ l.length := (rest_len _).1 _ _ _ _ h
theorem atomR_len {d : Nat} {x : Re} {l r : List Nat} (h : atomR d l = some (x, r)) : r.length < l.length := (rest_len _).2.2.2 _ _ _ _ h
theorem alt_step (d : Nat) (l : List Nat) : altR d l = (seqR d .eps l).bind fun p => barR d p.1 p.2 := by
  rw [show altR d l = altF ((4 * l.length + 3) + 1) d l from rfl]
  conv => lhs; unfold altF
  rw [seqR_eq _ d .eps l (Nat.le_refl _)]
  cases h : seqR d .eps l with
  | none => rfl
  | some p =>
    obtain ⟨r, l1⟩ := p
    have := seqR_len h
    exact barR_eq _ d r l1 (by omega)
theorem bar_nil (d : Nat) (a : Re) : barR d a [] = some (a, []) := by unfold barR; unfold barF; rfl
theorem bar_cons (d : Nat) (a : Re) (c : Nat) (l : List Nat) : barR d a (c :: l) = if c = 124 then (seqR d .eps l).bind fun p => barR d (.alt a p.1) p.2 else some (a, c :: l) := by
  rw [show barR d a (c :: l) = barF ((4 * (c :: l).length + 2) + 1) d a (c :: l) from rfl]
  conv => lhs; unfold barF
  dsimp only
  split
  · rw [seqR_eq (4 * (c :: l).length + 2) d .eps l (by simp only [List.length_cons]; omega)]
    cases h : seqR d .eps l with
    | none => rfl
    | some p =>
      obtain ⟨r, l1⟩ := p
      have := seqR_len h
      exact barR_eq (4 * (c :: l).length + 2) d (.alt a r) l1 (by simp only [List.length_cons]; omega)
  · rfl
theorem seq_nil (d : Nat) (a : Re) : seqR d a [] = some (a, []) := by unfold seqR; unfold seqF; rfl
theorem seq_cons (d : Nat) (a : Re) (c : Nat) (l : List Nat) : seqR d a (c :: l) = if c = 124 ∨ c = 41 then some (a, c :: l) else (atomR d (c :: l)).bind fun p => seqR d (.seq a (signR p.1 p.2).1) (signR p.1 p.2).2 := by
  rw [show seqR d a (c :: l) = seqF ((4 * (c :: l).length + 2) + 1) d a (c :: l) from rfl]
  conv => lhs; unfold seqF
  dsimp only
  split
  · rfl
  · rw [atomR_eq (4 * (c :: l).length + 2) d (c :: l) (by omega)]
    cases h : atomR d (c :: l) with
    | none => rfl
    | some p =>
      obtain ⟨r, l1⟩ := p
      have h1 := atomR_len h
      have h2 := sign_len r l1
      exact seqR_eq (4 * (c :: l).length + 2) d (.seq a (signR r l1).1) (signR r l1).2 (by omega)
theorem atom_cons (d : Nat) (c : Nat) (l : List Nat) : atomR d (c :: l) = if c = 40 then (if 6 ≤ d then none else (altR (d + 1) l).bind fun p => match p.2 with | [] => none | e :: l3 => if e = 41 then some (p.1, l3) else none)
      else if c = 91 then brackR l else if c = 46 then some (.cls fun x => decide (x ≠ 10), l) else if c = 94 then some (.bol, l) else if c = 36 then some (.eol, l)
      else if c = 92 then slashR l else if markR c then none else some (.cls fun x => decide (x = c), l) := by
  rw [show atomR d (c :: l) = atomF ((4 * (c :: l).length) + 1) d (c :: l) from rfl]
  conv => lhs; unfold atomF
  dsimp only
  rw [altR_eq (4 * (c :: l).length) (d + 1) l (by simp only [List.length_cons]; omega)]
  cases h : altR (d + 1) l with
  | none => rfl
  | some p => rfl
/-- A pattern. -/
def parseR (l : List Nat) : Option Re := (altR 0 l).bind fun p => if p.2 = [] then some p.1 else none
end Go.Proofs.Ytaaikjedagnjbaa
