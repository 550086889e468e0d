/- Plain: the tokens of a filter's text. No program in sight. -/
import Derived.Test.YtgjffkblhhkjmaaDoorQBackLaw
import Derived.Test.YtgjffkblhhkjmaaDoorDText
import Derived.Test.YtgjffkblhhkjmaaDoorCLaw
namespace Go.Proofs.YtgjffkblhhkjmaaDoor
open Go Go.Lib

def bl (c : UInt8) : Bool := decide (c = 32 ∨ c = 9 ∨ c = 10 ∨ c = 13)
def nameC (c : UInt8) : Bool := isLet c || isOth c
/-- Digits behind a point; a sign; an exponent: what is taken, and what follows. -/
def fracL : Txt → Txt × Txt
  | [] => ([], [])
  | c :: t => if c = 46 then (if lead t = [] then ([], c :: t) else (46 :: lead t, rest t)) else ([], c :: t)
def sgnL : Txt → Txt × Txt
  | [] => ([], [])
  | c :: t => if c = 43 ∨ c = 45 then ([c], t) else ([], c :: t)
def expL : Txt → Txt × Txt
  | [] => ([], [])
  | c :: t => if c = 101 ∨ c = 69 then (if lead (sgnL t).2 = [] then ([], c :: t) else (c :: ((sgnL t).1 ++ lead (sgnL t).2), rest (sgnL t).2)) else ([], c :: t)
/-- The number that a text begins with. -/
def numT (s : Txt) : Txt := lead s ++ ((fracL (rest s)).1 ++ (expL (fracL (rest s)).2).1)
def oneS (c : UInt8) : Bool := decide (c ∈ [46, 40, 41, 91, 93, 123, 125, 124, 44, 58, 59, 43, 45, 42, 47, 37, 60, 62])
def twoS (c d : UInt8) : Bool := decide (d = 61 ∧ (c = 61 ∨ c = 33 ∨ c = 60 ∨ c = 62))
/-- The sign that a text begins with. -/
def signX : Txt → Txt
  | [] => []
  | c :: t => match t with
    | d :: _ => if twoS c d then [c, d] else if oneS c then [c] else []
    | [] => if oneS c then [c] else []
abbrev TokR := Option (Nat × Txt × Option Dc × Nat)
def nameTok (kind n : Nat) (r : Txt) : TokR := if nameL (r.takeWhile nameC) then some (kind, r.takeWhile nameC, none, n + (r.takeWhile nameC).length) else none
def quoTok (kind n : Nat) (r : Txt) : TokR := if (unq r).2.2 = 0 then some (kind, (unq r).1, none, n + (unq r).2.1) else none
def numTok (s : Txt) : TokR := match parseL (numT s) with
  | some (some d) => some (4, [], some d, (numT s).length)
  | _ => none
def sigTok (s : Txt) : TokR := if signX s = [] then none else some (6, signX s, none, (signX s).length)
def headIs (c : UInt8) : Txt → Bool
  | d :: _ => d == c
  | [] => false
/-- The token that a text begins with, and how many bytes it has. -/
def tokL : Txt → TokR
  | [] => none
  | c :: t => if c = 36 then nameTok 2 1 t
    else if c = 46 ∧ headLet t = true then nameTok 3 1 t
    else if c = 46 ∧ headIs 34 t = true then quoTok 3 1 t
    else if c = 34 then quoTok 5 0 (c :: t)
    else if isLet c = true then nameTok 1 0 (c :: t)
    else if isDig c = true then numTok (c :: t)
    else sigTok (c :: t)
structure Tk where
  kind : Nat
  text : Txt
  num : Option Dc
  pos : Nat
def lexGo : Nat → Txt → Nat → Option (List Tk)
  | 0, _, _ => none
  | f + 1, s, a => if s.dropWhile bl = [] then some [] else match tokL (s.dropWhile bl) with
    | none => none
    | some (k, x, d, n) => (lexGo f ((s.dropWhile bl).drop n) (a + (s.length - (s.dropWhile bl).length) + n)).map fun l => ⟨k, x, d, a + (s.length - (s.dropWhile bl).length)⟩ :: l
def allL (s : Txt) : Int × List Tk := if 2000 < s.length then (3, []) else match lexGo (s.length + 1) s 0 with
  | none => (30, [])
  | some l => if 600 < l.length then (3, []) else (0, l)

/-! A blank behind. -/
theorem bl_or {b : UInt8} (hb : bl b = true) : b = 32 ∨ b = 9 ∨ b = 10 ∨ b = 13 := of_decide_eq_true hb
theorem tw_blank {p : UInt8 → Bool} {b : UInt8} (hp : p b = false) (x : Txt) : ∀ s : Txt, (s ++ b :: x).takeWhile p = s.takeWhile p ∧ (s ++ b :: x).dropWhile p = s.dropWhile p ++ b :: x
  | [] => by simp [hp]
  | c :: t => by
    obtain ⟨h1, h2⟩ := tw_blank hp x t
    simp only [List.cons_append, List.takeWhile_cons, List.dropWhile_cons]
    cases p c with
    | true => simp only [if_true]; exact ⟨by rw [h1], h2⟩
    | false => simp
theorem lead_blank {b : UInt8} (hb : bl b = true) (s x : Txt) : lead (s ++ b :: x) = lead s ∧ rest (s ++ b :: x) = rest s ++ b :: x := tw_blank (by rcases bl_or hb with rfl | rfl | rfl | rfl <;> decide) x s
theorem frac_blank {b : UInt8} (hb : bl b = true) (s x : Txt) : fracL (s ++ b :: x) = ((fracL s).1, (fracL s).2 ++ b :: x) := by
  cases s with
  | nil => rcases bl_or hb with rfl | rfl | rfl | rfl <;> rfl
  | cons c t =>
    show fracL (c :: (t ++ b :: x)) = _
    unfold fracL
    dsimp only
    rw [(lead_blank hb t x).1, (lead_blank hb t x).2]
    split
    · split <;> rfl
    · rfl
theorem sgn_blank {b : UInt8} (hb : bl b = true) (s x : Txt) : sgnL (s ++ b :: x) = ((sgnL s).1, (sgnL s).2 ++ b :: x) := by
  cases s with
  | nil => rcases bl_or hb with rfl | rfl | rfl | rfl <;> rfl
  | cons c t =>
    show sgnL (c :: (t ++ b :: x)) = _
    unfold sgnL
    dsimp only
    split <;> rfl
theorem exp_blank {b : UInt8} (hb : bl b = true) (s x : Txt) : expL (s ++ b :: x) = ((expL s).1, (expL s).2 ++ b :: x) := by
  cases s with
  | nil => rcases bl_or hb with rfl | rfl | rfl | rfl <;> rfl
  | cons c t =>
    show expL (c :: (t ++ b :: x)) = _
    unfold expL
    dsimp only
    rw [sgn_blank hb t x]
    dsimp only
    rw [(lead_blank hb _ x).1, (lead_blank hb _ x).2]
    split
    · split <;> rfl
    · rfl
theorem num_blank {b : UInt8} (hb : bl b = true) (s x : Txt) : numT (s ++ b :: x) = numT s := by
  unfold numT
  rw [(lead_blank hb s x).1, (lead_blank hb s x).2, frac_blank hb]
  dsimp only
  rw [exp_blank hb]
theorem sign_blank {b : UInt8} (hb : bl b = true) (s x : Txt) (h : s ≠ []) : signX (s ++ b :: x) = signX s := by
  match s, h with
  | [c], _ =>
    show signX (c :: b :: x) = _
    unfold signX
    have : twoS c b = false := by unfold twoS; rcases bl_or hb with rfl | rfl | rfl | rfl <;> simp
    simp [this]
  | c :: d :: t, _ => rfl
theorem headLet_blank {b : UInt8} (hb : bl b = true) (s x : Txt) : headLet (s ++ b :: x) = headLet s := by
  cases s with
  | nil => show isLet b = false; rcases bl_or hb with rfl | rfl | rfl | rfl <;> decide
  | cons c t => rfl
theorem headIs_blank {b : UInt8} (hb : bl b = true) (s x : Txt) : headIs 34 (s ++ b :: x) = headIs 34 s := by
  cases s with
  | nil => rcases bl_or hb with rfl | rfl | rfl | rfl <;> rfl
  | cons c t => rfl
/-- What was read in quotes is read whatever stands behind. -/
theorem hexs_app {a : Txt} (x : Txt) {n : Nat} (h : four a = some n) : four (a ++ x) = some n := by
  match a, h with
  | a :: b :: c :: d :: t, h => exact h
theorem unit_app {a : Txt} (x : Txt) {n : Nat} (h : unitL a = some n) : unitL (a ++ x) = some n := by
  match a, h with
  | a :: b :: t, h =>
    show unitL (a :: b :: (t ++ x)) = _
    unfold unitL at h ⊢
    dsimp only at h ⊢
    split at h
    · rename_i h1
      rw [if_pos h1]
      exact hexs_app x h
    · cases h
theorem esc_app {a : Txt} (x : Txt) {r : Nat × Nat} (h : escL a = some r) : escL (a ++ x) = some r := by
  match a, h with
  | b :: c :: t, h =>
    show escL (b :: c :: (t ++ x)) = _
    simp only [escL] at h ⊢
    cases hs : simpleE c with
    | some v => rw [hs] at h; exact h
    | none =>
      rw [hs] at h
      dsimp only at h ⊢
      cases hu : unitL (b :: c :: t) with
      | none => rw [hu] at h; cases h
      | some v =>
        rw [hu] at h
        have hu2 := unit_app x hu
        rw [show b :: c :: (t ++ x) = (b :: c :: t) ++ x from rfl, hu2]
        dsimp only at h ⊢
        split
        · rename_i h1; rw [if_pos h1] at h; cases h
        · rename_i h1
          rw [if_neg h1] at h
          split
          · rename_i h2; rw [if_pos h2] at h; exact h
          · rename_i h2
            rw [if_neg h2] at h
            cases hu3 : unitL ((b :: c :: t).drop 6) with
            | none => rw [hu3] at h; cases h
            | some y =>
              rw [hu3] at h
              have hl : 6 ≤ (b :: c :: t).length := by
                rcases Nat.lt_or_ge (b :: c :: t).length 6 with h6 | h6
                · rw [List.drop_of_length_le (by omega)] at hu3; cases hu3
                · exact h6
              have hu4 := unit_app x hu3
              rw [← List.drop_append_of_le_length hl] at hu4
              rw [hu4]
              exact h
theorem esc_len {a : Txt} {r : Nat × Nat} (h : escL a = some r) : r.2 ≤ a.length := by
  match a, h with
  | b :: c :: t, h =>
    simp only [escL] at h
    have key : ∀ {l : Txt} {n : Nat}, unitL l = some n → 6 ≤ l.length := by
      intro l n hl
      match l, hl with
      | a :: b :: t, hl =>
        unfold unitL at hl
        dsimp only at hl
        split at hl
        · match t, hl with
          | _ :: _ :: _ :: _ :: _, _ => simp
        · cases hl
    cases hs : simpleE c with
    | some v => rw [hs] at h; injection h with h; rw [← h]; simp
    | none =>
      rw [hs] at h
      dsimp only at h
      cases hu : unitL (b :: c :: t) with
      | none => rw [hu] at h; cases h
      | some v =>
        have h6 := key hu
        rw [hu] at h
        dsimp only at h
        split at h
        · cases h
        · split at h
          · injection h with h; rw [← h]; exact h6
          · cases hu3 : unitL ((b :: c :: t).drop 6) with
            | none => rw [hu3] at h; cases h
            | some y =>
              have h12 := key hu3
              rw [List.length_drop] at h12
              rw [hu3] at h
              dsimp only at h
              split at h
              · injection h with h; rw [← h]; show 12 ≤ _; omega
              · cases h
theorem unqGo_app : ∀ (f g : Nat) (l x out : Txt) (a : Nat), f ≤ g → (unqGo f l out a).2.2 = 0 → unqGo g (l ++ x) out a = unqGo f l out a
  | 0, _, _, _, _, _, _, h => by cases h
  | f + 1, 0, _, _, _, _, hg, _ => by omega
  | f + 1, g + 1, l, x, out, a, hg, h => by
    match l, h with
    | [], h => cases h
    | c :: t, h =>
      show unqGo (g + 1) (c :: (t ++ x)) out a = _
      simp only [unqGo] at h ⊢
      split
      · rfl
      · rename_i h1
        rw [if_neg h1] at h
        split
        · rename_i h2
          rw [if_pos h2] at h
          cases he : escL (c :: t) with
          | none => rw [he] at h; cases h
          | some r =>
            rw [he] at h
            have he2 := esc_app x he
            rw [show c :: (t ++ x) = (c :: t) ++ x from rfl, he2]
            dsimp only at h ⊢
            rw [List.drop_append_of_le_length (esc_len he)]
            exact unqGo_app f g _ x _ _ (by omega) h
        · rename_i h2
          rw [if_neg h2] at h
          split
          · rename_i h3
            split at h
            · cases h
            · rename_i h4
              exfalso
              have hb : ¬ Bad (c :: t) := fun hb => h4 (.inl hb)
              have hne : c :: t ≠ [] := by simp
              have hw := wd_le (c :: t) hne
              have e : c :: (t ++ x) = (c :: t).take (wd (c :: t)) ++ ((c :: t).drop (wd (c :: t)) ++ x) := by rw [← List.append_assoc, List.take_append_drop]; rfl
              have hd := decode_front (m := (c :: t).drop (wd (c :: t)) ++ x) hb hne
              have hb2 := bad_front (m := (c :: t).drop (wd (c :: t)) ++ x) hb hne
              rw [← e] at hd hb2
              rcases h3 with h3 | h3
              · exact hb2 h3
              · rw [hd] at h3; exact h4 (.inr h3)
          · split at h
            · cases h
            · rename_i h4
              rw [if_neg h4]
              have hb : ¬ Bad (c :: t) := fun hb => h4 (.inl hb)
              have hne : c :: t ≠ [] := by simp
              have hw := wd_le (c :: t) hne
              have e : c :: (t ++ x) = (c :: t).take (wd (c :: t)) ++ ((c :: t).drop (wd (c :: t)) ++ x) := by rw [← List.append_assoc, List.take_append_drop]; rfl
              have hwd := wd_front (m := (c :: t).drop (wd (c :: t)) ++ x) hb hne
              rw [← e] at hwd
              rw [hwd, show c :: (t ++ x) = (c :: t) ++ x from rfl, List.drop_append_of_le_length hw, List.take_append_of_le_length hw]
              exact unqGo_app f g _ x _ _ (by omega) h
theorem unq_app (l x : Txt) (h : (unq l).2.2 = 0) : unq (l ++ x) = unq l := by
  match l, h with
  | [], h => cases h
  | c :: t, h =>
    show unq (c :: (t ++ x)) = _
    unfold unq at h ⊢
    dsimp only at h ⊢
    split
    · rename_i h1
      rw [if_pos h1] at h
      exact unqGo_app _ _ t x [] 1 (by simp) h
    · rfl

/-- What a token says of itself. -/
theorem name_tok {k n : Nat} {r : Txt} {q : Nat × Txt × Option Dc × Nat} (h : nameTok k n r = some q) : q = (k, r.takeWhile nameC, none, n + (r.takeWhile nameC).length) ∧ nameL (r.takeWhile nameC) = true := by
  unfold nameTok at h
  split at h
  · rename_i h1; injection h with h; exact ⟨h.symm, h1⟩
  · cases h
theorem quo_tok {k n : Nat} {r : Txt} {q : Nat × Txt × Option Dc × Nat} (h : quoTok k n r = some q) : q = (k, (unq r).1, none, n + (unq r).2.1) ∧ (unq r).2.2 = 0 := by
  unfold quoTok at h
  split at h
  · rename_i h1; injection h with h; exact ⟨h.symm, h1⟩
  · cases h
theorem sig_tok {r : Txt} {q : Nat × Txt × Option Dc × Nat} (h : sigTok r = some q) : q = (6, signX r, none, (signX r).length) ∧ signX r ≠ [] := by
  unfold sigTok at h
  split at h
  · cases h
  · rename_i h1; injection h with h; exact ⟨h.symm, h1⟩
theorem num_tok {r : Txt} {q : Nat × Txt × Option Dc × Nat} (h : numTok r = some q) : ∃ d, q = (4, [], some d, (numT r).length) ∧ parseL (numT r) = some (some d) := by
  unfold numTok at h
  split at h
  · rename_i d hd; injection h with h; exact ⟨d, h.symm, hd⟩
  · cases h
theorem lead_le (s : Txt) : (lead s).length + (rest s).length = s.length := by have := congrArg List.length (lead_rest s); rw [List.length_append] at this; omega
theorem frac_le (s : Txt) : (fracL s).1.length + (fracL s).2.length = s.length := by
  cases s with
  | nil => rfl
  | cons c t =>
    unfold fracL
    dsimp only
    have := lead_le t
    split
    · split
      · simp
      · simp; omega
    · simp
theorem sgn_le (s : Txt) : (sgnL s).1.length + (sgnL s).2.length = s.length := by
  cases s with
  | nil => rfl
  | cons c t =>
    unfold sgnL
    dsimp only
    split
    · simp; omega
    · simp
theorem exp_le (s : Txt) : (expL s).1.length + (expL s).2.length = s.length := by
  cases s with
  | nil => rfl
  | cons c t =>
    unfold expL
    dsimp only
    have h1 := sgn_le t
    have h2 := lead_le (sgnL t).2
    split
    · split
      · simp
      · simp; omega
    · simp
theorem num_le (s : Txt) : (numT s).length ≤ s.length := by
  unfold numT
  have h1 := lead_le s
  have h2 := frac_le (rest s)
  have h3 := exp_le (fracL (rest s)).2
  simp only [List.length_append]
  omega
theorem sign_le (s : Txt) : (signX s).length ≤ s.length := by
  match s with
  | [] => simp [signX]
  | [c] => unfold signX; dsimp only; split <;> simp
  | c :: d :: t => unfold signX; dsimp only; split <;> (try split) <;> simp
theorem tw_le (p : UInt8 → Bool) (s : Txt) : (s.takeWhile p).length ≤ s.length := (List.takeWhile_prefix p).length_le
theorem tok_le {s : Txt} {k n : Nat} {x : Txt} {d : Option Dc} (h : tokL s = some (k, x, d, n)) : 0 < n ∧ n ≤ s.length := by
  match s, h with
  | c :: t, h =>
    have hn : ∀ {k2 n2 : Nat} {r : Txt}, nameTok k2 n2 r = some (k, x, d, n) → n2 + r.length ≤ t.length + 1 → 0 < n ∧ n ≤ t.length + 1 := fun h hl => by
      obtain ⟨e, h2⟩ := name_tok h
      injection e with _ e
      injection e with _ e
      injection e with _ e
      have := tw_le nameC ‹_›
      have h3 := (name_ne h2).1
      have := List.length_pos_iff.2 h3
      omega
    have hq : ∀ {k2 n2 : Nat} {r : Txt}, quoTok k2 n2 r = some (k, x, d, n) → n2 + r.length ≤ t.length + 1 → 0 < n ∧ n ≤ t.length + 1 := fun {k2 n2 r} h hl => by
      obtain ⟨e, h2⟩ := quo_tok h
      injection e with _ e
      injection e with _ e
      injection e with _ e
      have := (unq_fine r).1 h2
      omega
    unfold tokL at h
    dsimp only at h
    show 0 < n ∧ n ≤ t.length + 1
    split at h
    · exact hn h (by omega)
    · split at h
      · exact hn h (by omega)
      · split at h
        · exact hq h (by omega)
        · split at h
          · exact hq h (by simp)
          · split at h
            · exact hn h (by simp)
            · split at h
              · rename_i hd
                obtain ⟨d2, e, h2⟩ := num_tok h
                injection e with _ e
                injection e with _ e
                injection e with _ e
                have h3 := num_le (c :: t)
                have h4 : 0 < (numT (c :: t)).length := by
                  unfold numT
                  have : lead (c :: t) = c :: lead t := by unfold lead; rw [List.takeWhile_cons, hd]; rfl
                  rw [this]
                  simp
                simp at h3
                omega
              · obtain ⟨e, h2⟩ := sig_tok h
                injection e with _ e
                injection e with _ e
                injection e with _ e
                have h3 := sign_le (c :: t)
                have h4 := List.length_pos_iff.2 h2
                simp at h3
                omega
theorem tok_blank {b : UInt8} (hb : bl b = true) {s : Txt} {q : Nat × Txt × Option Dc × Nat} (x : Txt) (h : tokL s = some q) : tokL (s ++ b :: x) = some q := by
  match s, h with
  | c :: t, h =>
    have hn : ∀ {k n : Nat} {r : Txt}, nameTok k n (r ++ b :: x) = nameTok k n r := fun {k n r} => by
      unfold nameTok
      rw [(tw_blank (p := nameC) (by rcases bl_or hb with rfl | rfl | rfl | rfl <;> decide) x r).1]
    have hq : ∀ {k n : Nat} {r : Txt}, quoTok k n r = some q → quoTok k n (r ++ b :: x) = some q := fun {k n r} h => by
      obtain ⟨_, h2⟩ := quo_tok h
      unfold quoTok at h ⊢
      rw [unq_app r _ h2]
      exact h
    show tokL (c :: (t ++ b :: x)) = _
    unfold tokL at h ⊢
    dsimp only at h ⊢
    rw [headLet_blank hb, headIs_blank hb]
    have e : c :: (t ++ b :: x) = (c :: t) ++ b :: x := rfl
    rw [e, hn, hn, hn]
    split
    · rename_i h1; rw [if_pos h1] at h; exact h
    · rename_i h1
      rw [if_neg h1] at h
      split
      · rename_i h2; rw [if_pos h2] at h; exact h
      · rename_i h2
        rw [if_neg h2] at h
        split
        · rename_i h3; rw [if_pos h3] at h; exact hq h
        · rename_i h3
          rw [if_neg h3] at h
          split
          · rename_i h4; rw [if_pos h4] at h; exact hq h
          · rename_i h4
            rw [if_neg h4] at h
            split
            · rename_i h5; rw [if_pos h5] at h; exact h
            · rename_i h5
              rw [if_neg h5] at h
              split
              · rename_i h6
                rw [if_pos h6] at h
                unfold numTok at h ⊢
                rw [num_blank hb]
                exact h
              · rename_i h6
                rw [if_neg h6] at h
                unfold sigTok at h ⊢
                rw [sign_blank hb _ _ (by simp)]
                exact h

/-! All tokens. -/
theorem dw_le (p : UInt8 → Bool) (s : Txt) : (s.dropWhile p).length ≤ s.length := (List.dropWhile_suffix p).length_le
theorem lexGo_fuel : ∀ (f g : Nat) (s : Txt) (a : Nat), s.length < f → s.length < g → lexGo f s a = lexGo g s a
  | 0, _, _, _, h, _ => by omega
  | f + 1, 0, _, _, _, h => by omega
  | f + 1, g + 1, s, a, h1, h2 => by
    unfold lexGo
    split
    · rfl
    · cases ht : tokL (s.dropWhile bl) with
      | none => rfl
      | some q =>
        obtain ⟨k, x, d, n⟩ := q
        dsimp only
        have h3 := tok_le ht
        have h4 := dw_le bl s
        rw [lexGo_fuel f g _ _ (by rw [List.length_drop]; omega) (by rw [List.length_drop]; omega)]
def shiftT (k : Nat) (t : Tk) : Tk := { t with pos := k + t.pos }
theorem lexGo_shift : ∀ (f : Nat) (s : Txt) (a b : Nat), lexGo f s (a + b) = (lexGo f s b).map (fun l => l.map (shiftT a))
  | 0, _, _, _ => rfl
  | f + 1, s, a, b => by
    unfold lexGo
    split
    · rfl
    · cases ht : tokL (s.dropWhile bl) with
      | none => rfl
      | some q =>
        obtain ⟨k, x, d, n⟩ := q
        dsimp only
        have := lexGo_shift f ((s.dropWhile bl).drop n) a (b + (s.length - (s.dropWhile bl).length) + n)
        rw [show a + b + (s.length - (s.dropWhile bl).length) + n = a + (b + (s.length - (s.dropWhile bl).length) + n) by omega, this]
        cases lexGo f ((s.dropWhile bl).drop n) (b + (s.length - (s.dropWhile bl).length) + n) with
        | none => rfl
        | some l => simp [shiftT, Nat.add_assoc]
theorem dw_all {b : UInt8} (hb : bl b = true) : ∀ (s : Txt) (x : Txt), s.dropWhile bl = [] → (s ++ b :: x).dropWhile bl = x.dropWhile bl
  | [], x, _ => by show (b :: x).dropWhile bl = _; rw [List.dropWhile_cons, if_pos hb]
  | c :: t, x, h => by
    rw [List.dropWhile_cons] at h
    split at h
    · rename_i hc
      show (c :: (t ++ b :: x)).dropWhile bl = _
      rw [List.dropWhile_cons, if_pos hc]
      exact dw_all hb t x h
    · cases h
theorem dw_some : ∀ (s : Txt) (x : Txt), s.dropWhile bl ≠ [] → (s ++ x).dropWhile bl = s.dropWhile bl ++ x
  | [], x, h => absurd rfl h
  | c :: t, x, h => by
    rw [List.dropWhile_cons] at h
    show (c :: (t ++ x)).dropWhile bl = _
    rw [List.dropWhile_cons, List.dropWhile_cons]
    split at h
    · rename_i hc
      rw [if_pos hc, if_pos hc]
      exact dw_some t x h
    · rename_i hc
      rw [if_neg hc, if_neg hc]
      rfl
/-- Two texts with a blank between. -/
theorem lex_join {b : UInt8} (hb : bl b = true) : ∀ (f g : Nat) (s x : Txt) (a : Nat) (A : List Tk), lexGo f s a = some A → s.length + 1 + x.length < g → lexGo g (s ++ b :: x) a = (lexGo g x (a + (s.length + 1))).map (fun B => A ++ B)
  | 0, _, _, _, _, _, h, _ => by cases h
  | f + 1, 0, _, _, _, _, _, h => by omega
  | f + 1, g + 1, s, x, a, A, h, hg => by
    by_cases hr : s.dropWhile bl = []
    · have hA : A = [] := by
        unfold lexGo at h
        rw [if_pos hr] at h
        injection h with h
        exact h.symm
      subst hA
      have hd := dw_all hb s x hr
      have hx := dw_le bl x
      have hid : (lexGo (g + 1) x (a + (s.length + 1))).map (fun B => [] ++ B) = lexGo (g + 1) x (a + (s.length + 1)) := by
        cases lexGo (g + 1) x (a + (s.length + 1)) <;> rfl
      rw [hid]
      have hl : a + ((s ++ b :: x).length - (x.dropWhile bl).length) = a + (s.length + 1) + (x.length - (x.dropWhile bl).length) := by simp; omega
      unfold lexGo
      rw [hd, hl]
    · have hd := dw_some s (b :: x) hr
      have hsl := dw_le bl s
      unfold lexGo at h
      rw [if_neg hr] at h
      cases ht : tokL (s.dropWhile bl) with
      | none => rw [ht] at h; cases h
      | some q =>
        obtain ⟨k, y, d, n⟩ := q
        rw [ht] at h
        dsimp only at h
        have h3 := tok_le ht
        have htb := tok_blank hb x ht
        cases hl : lexGo f ((s.dropWhile bl).drop n) (a + (s.length - (s.dropWhile bl).length) + n) with
        | none => rw [hl] at h; cases h
        | some B =>
          rw [hl] at h
          injection h with h
          have hlen : ((s.dropWhile bl).drop n).length = (s.dropWhile bl).length - n := List.length_drop
          have ih := lex_join hb f g _ x _ B hl (by rw [hlen]; omega)
          conv => lhs; unfold lexGo
          rw [hd, if_neg (by simp), htb]
          dsimp only
          have e1 : (s ++ b :: x).length - (s.dropWhile bl ++ b :: x).length = s.length - (s.dropWhile bl).length := by simp; omega
          rw [e1, List.drop_append_of_le_length h3.2, ih, hlen, show a + (s.length - (s.dropWhile bl).length) + n + ((s.dropWhile bl).length - n + 1) = a + (s.length + 1) by omega,
            lexGo_fuel g (g + 1) x _ (by omega) (by omega)]
          cases lexGo (g + 1) x (a + (s.length + 1)) with
          | none => rfl
          | some C => simp [← h]
end Go.Proofs.YtgjffkblhhkjmaaDoor
