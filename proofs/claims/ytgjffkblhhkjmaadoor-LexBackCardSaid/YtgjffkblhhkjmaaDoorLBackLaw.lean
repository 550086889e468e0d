/- Plain: tokens that were written are read as they were; where they stand; names. No program in sight. -/
import Derived.Test.YtgjffkblhhkjmaaDoorLLaw
namespace Go.Proofs.YtgjffkblhhkjmaaDoor
open Go Go.Lib

/-- A token's text. -/
def writ (t : Tk) : Txt := if t.kind = 2 then 36 :: t.text else if t.kind = 3 then 46 :: quoteL t.text else if t.kind = 4 then (match t.num with
  | some d => printL d
  | none => []) else if t.kind = 5 then quoteL t.text else t.text
def GoodT (t : Tk) : Prop := tokL (writ t) = some (t.kind, t.text, t.num, (writ t).length)
theorem tw_all {p : UInt8 → Bool} : ∀ {l : Txt}, (∀ c ∈ l, p c = true) → l.takeWhile p = l
  | [], _ => rfl
  | c :: t, h => by rw [List.takeWhile_cons, if_pos (h c (by simp)), tw_all (fun d hd => h d (by simp [hd]))]
theorem name_all {x : Txt} (h : nameL x = true) : (∀ c ∈ x, nameC c = true) ∧ headLet x = true ∧ x.length ≤ 24 := by
  unfold nameL at h
  simp only [Bool.and_eq_true, List.all_eq_true, decide_eq_true_eq] at h
  exact ⟨h.1, h.2.1, h.2.2⟩
theorem name_tw {x : Txt} (h : nameL x = true) : x.takeWhile nameC = x := tw_all (name_all h).1
theorem name_cons {x : Txt} (h : nameL x = true) : ∃ c t, x = c :: t ∧ isLet c = true := by
  match x, (name_all h).2.1 with
  | c :: t, h2 => exact ⟨c, t, rfl, h2⟩
theorem let_ne {c : UInt8} (h : isLet c = true) : c ≠ 36 ∧ c ≠ 46 ∧ c ≠ 34 := by
  refine ⟨?_, ?_, ?_⟩ <;> (rintro rfl; revert h; decide)
theorem dig_ne {c : UInt8} (h : isDig c = true) : c ≠ 36 ∧ c ≠ 46 ∧ c ≠ 34 ∧ isLet c = false := by
  refine ⟨?_, ?_, ?_, ?_⟩
  · rintro rfl; revert h; decide
  · rintro rfl; revert h; decide
  · rintro rfl; revert h; decide
  · have h2 := (isDig_iff c).1 h
    unfold Dig at h2
    unfold isLet
    rw [decide_eq_false (by omega)]
    rfl
theorem nameC_low {c : UInt8} (h : nameC c = true) : c.toNat < 128 := by
  unfold nameC isLet isOth at h
  simp only [Bool.or_eq_true, Bool.and_eq_true, decide_eq_true_eq] at h
  omega
theorem name_valid {x : Txt} (h : nameL x = true) : validD x = true := by
  have h1 := (name_all h).1
  clear h
  induction x with
  | nil => rfl
  | cons c t ih => rw [validD_cons c t (nameC_low (h1 c (by simp)))]; exact ih (fun d hd => h1 d (by simp [hd]))
theorem tok_name {x : Txt} (h : nameL x = true) : tokL x = some (1, x, none, x.length) := by
  obtain ⟨c, t, e, hc⟩ := name_cons h
  obtain ⟨h1, h2, h3⟩ := let_ne hc
  have hx := name_tw h
  rw [e] at h hx ⊢
  unfold tokL
  dsimp only
  rw [if_neg h1, if_neg (fun h => h2 h.1), if_neg (fun h => h2 h.1), if_neg h3, if_pos hc]
  unfold nameTok
  rw [hx, if_pos h, Nat.zero_add]
theorem tok_var {x : Txt} (h : nameL x = true) : tokL (36 :: x) = some (2, x, none, (36 :: x).length) := by
  unfold tokL
  dsimp only
  rw [if_pos rfl]
  unfold nameTok
  rw [name_tw h, if_pos h, Nat.add_comm]
  rfl
theorem tok_key {x : Txt} (h : nameL x = true) : tokL (46 :: x) = some (3, x, none, (46 :: x).length) := by
  unfold tokL
  dsimp only
  rw [if_neg (by decide), if_pos ⟨rfl, (name_all h).2.1⟩]
  unfold nameTok
  rw [name_tw h, if_pos h, Nat.add_comm]
  rfl
theorem tok_quo {x : Txt} (hv : validD x = true) (hl : x.length ≤ 4096) : tokL (46 :: quoteL x) = some (3, x, none, (46 :: quoteL x).length) ∧ tokL (quoteL x) = some (5, x, none, (quoteL x).length) := by
  have hu := unq_back x [] hv hl
  rw [List.append_nil] at hu
  have hq : ∃ t, quoteL x = 34 :: t := ⟨_, rfl⟩
  obtain ⟨t, ht⟩ := hq
  constructor
  · unfold tokL
    dsimp only
    rw [if_neg (by decide), if_neg (by rw [ht]; rintro ⟨_, h⟩; revert h; show ¬ isLet 34 = true; decide), if_pos ⟨rfl, by rw [ht]; rfl⟩]
    unfold quoTok
    rw [hu]
    simp [Nat.add_comm]
  · rw [ht] at hu ⊢
    unfold tokL
    dsimp only
    rw [if_neg (by decide), if_neg (by rintro ⟨h, _⟩; revert h; decide), if_neg (by rintro ⟨h, _⟩; revert h; decide), if_pos rfl]
    unfold quoTok
    rw [hu]
    simp
theorem dig_head {W : Txt} (hW : Digs W) (hne : W ≠ []) (r : Txt) : ∃ c t, W ++ r = c :: t ∧ isDig c = true := by
  match W, hne with
  | c :: t, _ => exact ⟨c, t ++ r, rfl, (isDig_iff c).2 (hW c (by simp))⟩
theorem num_bare (d : Dc) : numT (bareL d) = bareL d ∧ ∃ c t, bareL d = c :: t ∧ isDig c = true := by
  obtain ⟨W, P, hW, hP, hne, _, _, _, hB⟩ := bare_form d
  refine ⟨?_, by rw [hB]; exact dig_head hW hne _⟩
  rw [hB]
  by_cases hp : P = []
  · rw [if_pos hp, List.append_nil]
    unfold numT
    rw [(lead_all hW).1, (lead_all hW).2]
    simp [fracL, expL]
  · rw [if_neg hp]
    have h46 : ¬ Dig 46 := by decide
    obtain ⟨l1, l2⟩ := lead_append hW (46 :: P)
    rw [(lead_stop h46 P).1, List.append_nil] at l1
    rw [(lead_stop h46 P).2] at l2
    unfold numT
    rw [l1, l2]
    have hf : fracL (46 :: P) = (46 :: P, []) := by
      unfold fracL
      dsimp only
      rw [if_pos rfl, if_neg (by rw [(lead_all hP).1]; exact hp), (lead_all hP).1, (lead_all hP).2]
    rw [hf]
    simp [expL]
theorem tok_num {d : Dc} (hd : Ok d) (hn : d.neg = false) : tokL (printL d) = some (4, [], some d, (printL d).length) := by
  have hb : printL d = bareL d := by unfold printL; rw [hn]; rfl
  obtain ⟨h1, c, t, h2, h3⟩ := num_bare d
  obtain ⟨n1, n2, n3, n4⟩ := dig_ne h3
  have hp := parse_back hd
  rw [hb] at hp ⊢
  rw [h2] at h1 hp ⊢
  unfold tokL
  dsimp only
  rw [if_neg n1, if_neg (fun h => n2 h.1), if_neg (fun h => n2 h.1), if_neg n3, if_neg (by rw [n4]; simp), if_pos h3]
  unfold numTok
  rw [h1, hp]
theorem one_sign : ∀ c : UInt8, oneS c = true → c ≠ 36 ∧ c ≠ 34 ∧ isLet c = false ∧ isDig c = false := by
  intro c h
  have h2 : c ∈ ([46, 40, 41, 91, 93, 123, 125, 124, 44, 58, 59, 43, 45, 42, 47, 37, 60, 62] : List UInt8) := of_decide_eq_true h
  have key : ∀ c ∈ ([46, 40, 41, 91, 93, 123, 125, 124, 44, 58, 59, 43, 45, 42, 47, 37, 60, 62] : List UInt8), c ≠ 36 ∧ c ≠ 34 ∧ isLet c = false ∧ isDig c = false := by decide
  exact key c h2
theorem two_sign {c d : UInt8} (h : twoS c d = true) : c ≠ 36 ∧ c ≠ 34 ∧ c ≠ 46 ∧ isLet c = false ∧ isDig c = false := by
  have h2 : d = 61 ∧ (c = 61 ∨ c = 33 ∨ c = 60 ∨ c = 62) := of_decide_eq_true h
  rcases h2.2 with rfl | rfl | rfl | rfl <;> decide
theorem sign_form (s : Txt) : signX s = [] ∨ (∃ c d, signX s = [c, d] ∧ twoS c d = true ∧ s.head? = some c) ∨ ∃ c, signX s = [c] ∧ oneS c = true ∧ s.head? = some c := by
  match s with
  | [] => exact .inl rfl
  | [c] =>
    unfold signX
    dsimp only
    split
    · rename_i h; exact .inr (.inr ⟨c, rfl, h, rfl⟩)
    · exact .inl rfl
  | c :: d :: t =>
    unfold signX
    dsimp only
    split
    · rename_i h; exact .inr (.inl ⟨c, d, rfl, h, rfl⟩)
    · split
      · rename_i h; exact .inr (.inr ⟨c, rfl, h, rfl⟩)
      · exact .inl rfl
theorem tok_sign (s : Txt) (h : signX s ≠ []) : tokL (signX s) = some (6, signX s, none, (signX s).length) := by
  rcases sign_form s with h1 | ⟨c, d, h1, h2, _⟩ | ⟨c, h1, h2, _⟩
  · exact absurd h1 h
  · obtain ⟨n1, n2, n3, n4, n5⟩ := two_sign h2
    have he : signX [c, d] = [c, d] := by
      unfold signX
      dsimp only
      rw [if_pos h2]
    rw [h1]
    unfold tokL
    dsimp only
    rw [if_neg n1, if_neg (fun h => n3 h.1), if_neg (fun h => n3 h.1), if_neg n2, if_neg (by rw [n4]; simp), if_neg (by rw [n5]; simp)]
    unfold sigTok
    rw [he, if_neg (by simp)]
  · obtain ⟨n1, n2, n4, n5⟩ := one_sign c h2
    have he : signX [c] = [c] := by
      unfold signX
      dsimp only
      rw [if_pos h2]
    rw [h1]
    unfold tokL
    dsimp only
    rw [if_neg n1, if_neg (by rintro ⟨_, h⟩; cases h), if_neg (by rintro ⟨_, h⟩; cases h), if_neg n2, if_neg (by rw [n4]; simp), if_neg (by rw [n5]; simp)]
    unfold sigTok
    rw [he, if_neg (by simp)]
/-- A number is not below 0, and may be. -/
theorem num_ok {s : Txt} {c : UInt8} {t : Txt} (hs : s = c :: t) (hc : isDig c = true) {d : Dc} (h : parseL (numT s) = some (some d)) : Ok d ∧ d.neg = false := by
  have hh : ∃ u, numT s = c :: u := by
    unfold numT
    have : lead s = c :: lead t := by rw [hs]; unfold lead; rw [List.takeWhile_cons, hc]; rfl
    rw [this]
    exact ⟨_, rfl⟩
  obtain ⟨u, hu⟩ := hh
  have hsg : signL (numT s) = (false, numT s) := by
    rw [hu]
    unfold signL
    split
    · rename_i h2
      injection h2 with h2
      rw [h2] at hc
      exact absurd hc (by decide)
    · rfl
  unfold parseL at h
  rw [hsg] at h
  dsimp only at h
  cases hp : plainN (numT s) with
  | none => rw [hp] at h; cases h
  | some x =>
    rw [hp] at h
    injection h with h
    obtain ⟨h1, h2, h3, _⟩ := norm_ok h
    refine ⟨h1, ?_⟩
    by_cases h0 : x.1 = 0
    · exact (h1.2.2.1 (h2.2 h0)).2
    · exact h3 h0
/-- What a token that was read is. -/
theorem tok_form {s : Txt} {k n : Nat} {x : Txt} {d : Option Dc} (h : tokL s = some (k, x, d, n)) :
    ∃ c t, s = c :: t ∧ ((k = 1 ∧ nameL x = true ∧ x.head? = some c ∧ d = none) ∨ (k = 2 ∧ c = 36 ∧ nameL x = true ∧ d = none) ∨ (k = 3 ∧ c = 46 ∧ nameL x = true ∧ d = none) ∨ (k = 3 ∧ c = 46 ∧ validD x = true ∧ x.length ≤ 4096 ∧ d = none) ∨
      (k = 5 ∧ c = 34 ∧ validD x = true ∧ x.length ≤ 4096 ∧ d = none) ∨ (k = 4 ∧ isDig c = true ∧ x = [] ∧ ∃ e, d = some e ∧ Ok e ∧ e.neg = false) ∨ (k = 6 ∧ x = signX s ∧ x ≠ [] ∧ x.head? = some c ∧ x.length ≤ 2 ∧ d = none)) := by
  match s, h with
  | c :: t, h =>
    refine ⟨c, t, rfl, ?_⟩
    unfold tokL at h
    dsimp only at h
    split at h
    · rename_i h1
      obtain ⟨e, h2⟩ := name_tok h
      injection e with e1 e
      injection e with e2 e
      injection e with e3 e
      exact .inr (.inl ⟨e1, h1, by rw [e2]; exact h2, e3⟩)
    · split at h
      · rename_i h1
        obtain ⟨e, h2⟩ := name_tok h
        injection e with e1 e
        injection e with e2 e
        injection e with e3 e
        exact .inr (.inr (.inl ⟨e1, h1.1, by rw [e2]; exact h2, e3⟩))
      · split at h
        · rename_i h1
          obtain ⟨e, h2⟩ := quo_tok h
          injection e with e1 e
          injection e with e2 e
          injection e with e3 e
          have hf := unq_fine t
          exact .inr (.inr (.inr (.inl ⟨e1, h1.1, by rw [e2]; exact (hf.1 h2).1, by rw [e2]; exact hf.2.2.2, e3⟩)))
        · split at h
          · rename_i h1
            obtain ⟨e, h2⟩ := quo_tok h
            injection e with e1 e
            injection e with e2 e
            injection e with e3 e
            have hf := unq_fine (c :: t)
            exact .inr (.inr (.inr (.inr (.inl ⟨e1, h1, by rw [e2]; exact (hf.1 h2).1, by rw [e2]; exact hf.2.2.2, e3⟩))))
          · split at h
            · rename_i h1
              obtain ⟨e, h2⟩ := name_tok h
              injection e with e1 e
              injection e with e2 e
              injection e with e3 e
              refine .inl ⟨e1, by rw [e2]; exact h2, ?_, e3⟩
              have hn : nameC c = true := by unfold nameC; rw [h1]; rfl
              rw [e2, List.takeWhile_cons, if_pos hn]
              rfl
            · split at h
              · rename_i h1
                obtain ⟨d2, e, h2⟩ := num_tok h
                injection e with e1 e
                injection e with e2 e
                injection e with e3 e
                obtain ⟨o1, o2⟩ := num_ok rfl h1 h2
                exact .inr (.inr (.inr (.inr (.inr (.inl ⟨e1, h1, e2, d2, e3, o1, o2⟩)))))
              · obtain ⟨e, h2⟩ := sig_tok h
                injection e with e1 e
                injection e with e2 e
                injection e with e3 e
                refine .inr (.inr (.inr (.inr (.inr (.inr ⟨e1, e2, by rw [e2]; exact h2, ?_, ?_, e3⟩)))))
                · rcases sign_form (c :: t) with h3 | ⟨a, b, h3, _, h4⟩ | ⟨a, h3, _, h4⟩
                  · exact absurd h3 h2
                  · rw [e2, h3]; exact h4.symm
                  · rw [e2, h3]; exact h4.symm
                · rcases sign_form (c :: t) with h3 | ⟨a, b, h3, _, h4⟩ | ⟨a, h3, _, h4⟩
                  · exact absurd h3 h2
                  · rw [e2, h3]; simp
                  · rw [e2, h3]; simp
theorem good_of {s : Txt} {k n : Nat} {x : Txt} {d : Option Dc} (h : tokL s = some (k, x, d, n)) (pos : Nat) : GoodT ⟨k, x, d, pos⟩ := by
  obtain ⟨c, t, _, h1⟩ := tok_form h
  unfold GoodT writ
  dsimp only
  rcases h1 with ⟨rfl, h2, _, rfl⟩ | ⟨rfl, _, h2, rfl⟩ | ⟨rfl, _, h2, rfl⟩ | ⟨rfl, _, h2, h3, rfl⟩ | ⟨rfl, _, h2, h3, rfl⟩ | ⟨rfl, _, rfl, e, rfl, h2, h3⟩ | ⟨rfl, h2, h3, _, _, rfl⟩
  · exact tok_name h2
  · exact tok_var h2
  · exact (tok_quo (name_valid h2) (by have := (name_all h2).2.2; omega)).1
  · exact (tok_quo h2 h3).1
  · exact (tok_quo h2 h3).2
  · exact tok_num h2 h3
  · rw [h2] at h3 ⊢; exact tok_sign s h3
theorem tok_nb {s : Txt} {q : Nat × Txt × Option Dc × Nat} (h : tokL s = some q) : s ≠ [] ∧ s.dropWhile bl = s := by
  match s, h with
  | c :: t, h =>
    refine ⟨by simp, ?_⟩
    rw [List.dropWhile_cons]
    split
    · rename_i hb
      exfalso
      rcases bl_or hb with rfl | rfl | rfl | rfl
      all_goals
        unfold tokL at h
        dsimp only at h
        rw [if_neg (by decide), if_neg (by rintro ⟨h, _⟩; revert h; decide), if_neg (by rintro ⟨h, _⟩; revert h; decide), if_neg (by decide), if_neg (by decide), if_neg (by decide)] at h
        unfold sigTok at h
        rw [if_pos (by
          cases t with
          | nil => rfl
          | cons d u =>
            unfold signX
            dsimp only
            rw [if_neg (by unfold twoS; simp), if_neg (by decide)])] at h
        cases h
    · rfl
/-- Rows of tokens that are the same, but for where they stand. -/
def SameT (l m : List Tk) : Prop := l.map (fun t => (t.kind, t.text, t.num)) = m.map (fun t => (t.kind, t.text, t.num))
theorem lex_one {t : Tk} (h : GoodT t) (f a : Nat) : ∃ t', lexGo (f + 2) (writ t) a = some [t'] ∧ t'.kind = t.kind ∧ t'.text = t.text ∧ t'.num = t.num := by
  obtain ⟨h1, h2⟩ := tok_nb h
  refine ⟨⟨t.kind, t.text, t.num, a⟩, ?_, rfl, rfl, rfl⟩
  unfold lexGo
  rw [h2, if_neg h1, h]
  dsimp only
  rw [List.drop_length]
  have : lexGo (f + 1) [] (a + ((writ t).length - (writ t).length) + (writ t).length) = some [] := by unfold lexGo; rfl
  rw [this]
  simp
theorem lex_back : ∀ (l : List Tk), (∀ t ∈ l, GoodT t) → ∀ (g a : Nat), (joinB (l.map writ)).length + 1 < g → ∃ m, lexGo g (joinB (l.map writ)) a = some m ∧ SameT l m
  | [], _, g, a, hg => by
    obtain ⟨g', rfl⟩ : ∃ g', g = g' + 1 := ⟨g - 1, by omega⟩
    exact ⟨[], by show lexGo (g' + 1) [] a = _; unfold lexGo; rfl, rfl⟩
  | [t], h, g, a, hg => by
    obtain ⟨g', rfl⟩ : ∃ g', g = g' + 2 := ⟨g - 2, by omega⟩
    obtain ⟨t', h1, h2, h3, h4⟩ := lex_one (h t (by simp)) g' a
    exact ⟨[t'], h1, by simp [SameT, h2, h3, h4]⟩
  | t :: u :: r, h, g, a, hg => by
    have hj : joinB ((t :: u :: r).map writ) = writ t ++ 32 :: joinB ((u :: r).map writ) := rfl
    rw [hj] at hg ⊢
    rw [List.length_append, List.length_cons] at hg
    obtain ⟨t', h1, h2, h3, h4⟩ := lex_one (h t (by simp)) (writ t).length a
    obtain ⟨m, h5, h6⟩ := lex_back (u :: r) (fun v hv => h v (List.mem_cons_of_mem _ hv)) g (a + ((writ t).length + 1)) (by omega)
    rw [lex_join (by decide) _ g _ (joinB ((u :: r).map writ)) a [t'] h1 (by omega), h5]
    refine ⟨t' :: m, rfl, ?_⟩
    unfold SameT at h6 ⊢
    simp only [List.map_cons] at h6 ⊢
    rw [h2, h3, h4, ← h6]
/-- Blanks ahead, and behind. -/
theorem lex_ahead {b : UInt8} (hb : bl b = true) (f : Nat) (s : Txt) (a : Nat) : lexGo (f + 1) (b :: s) a = lexGo (f + 1) s (a + 1) := by
  have hd : (b :: s).dropWhile bl = s.dropWhile bl := by rw [List.dropWhile_cons, if_pos hb]
  have hl := dw_le bl s
  unfold lexGo
  rw [hd, show a + ((b :: s).length - (s.dropWhile bl).length) = a + 1 + (s.length - (s.dropWhile bl).length) by simp; omega]
theorem lex_behind {b c : UInt8} (hb : bl b = true) (hc : bl c = true) (f g : Nat) (s : Txt) (a : Nat) (A : List Tk) (h : lexGo f s a = some A) (hg : s.length + 2 < g) : lexGo g (s ++ [b, c]) a = some A := by
  have := lex_join hb f g s [c] a A h (by simpa using hg)
  rw [this]
  obtain ⟨g', rfl⟩ : ∃ g', g = g' + 2 := ⟨g - 2, by omega⟩
  rw [lex_ahead hc]
  have : lexGo (g' + 1 + 1) [] (a + (s.length + 1) + 1) = some [] := by unfold lexGo; rfl
  rw [this]
  simp
theorem same_len {l m : List Tk} (h : SameT l m) : l.length = m.length := by simpa [SameT] using congrArg List.length h
/-- Each token that was read is good, and where it stands. -/
def PlT (S : Txt) : Nat → List Tk → Prop
  | _, [] => True
  | lo, t :: r => lo ≤ t.pos ∧ t.pos < S.length ∧ (∃ n, tokL (S.drop t.pos) = some (t.kind, t.text, t.num, n)) ∧ PlT S (t.pos + 1) r
theorem PlT.low {S : Txt} {lo lo' : Nat} (h : lo' ≤ lo) : ∀ {l : List Tk}, PlT S lo l → PlT S lo' l
  | [], _ => trivial
  | _ :: _, hl => ⟨Nat.le_trans h hl.1, hl.2⟩
theorem lex_places : ∀ (f : Nat) (S s : Txt) (a : Nat) (l : List Tk), lexGo f s a = some l → S.drop a = s → a ≤ S.length → PlT S a l ∧ l.length ≤ s.length
  | 0, _, _, _, _, h, _, _ => by cases h
  | f + 1, S, s, a, l, h, hs, ha => by
    unfold lexGo at h
    split at h
    · injection h with h
      subst h
      exact ⟨trivial, Nat.zero_le _⟩
    · cases ht : tokL (s.dropWhile bl) with
      | none => rw [ht] at h; cases h
      | some q =>
        obtain ⟨k, x, d, n⟩ := q
        rw [ht] at h
        dsimp only at h
        have h3 := tok_le ht
        have h4 := dw_le bl s
        have hdr : s.dropWhile bl = s.drop (s.length - (s.dropWhile bl).length) := List.suffix_iff_eq_drop.1 (List.dropWhile_suffix bl)
        have hsl : s.length = S.length - a := by rw [← hs, List.length_drop]
        have hS : S.drop (a + (s.length - (s.dropWhile bl).length)) = s.dropWhile bl := by
          rw [← List.drop_drop, hs]
          exact hdr.symm
        cases hl : lexGo f ((s.dropWhile bl).drop n) (a + (s.length - (s.dropWhile bl).length) + n) with
        | none => rw [hl] at h; cases h
        | some B =>
          rw [hl] at h
          injection h with h
          obtain ⟨i1, i2⟩ := lex_places f S _ _ B hl (by rw [← List.drop_drop, hS]) (by omega)
          subst h
          refine ⟨⟨by show a ≤ a + (s.length - (s.dropWhile bl).length); omega, by show a + (s.length - (s.dropWhile bl).length) < _; omega, ⟨n, by rw [hS]; exact ht⟩, PlT.low (by show a + (s.length - (s.dropWhile bl).length) + 1 ≤ _; omega) i1⟩, ?_⟩
          rw [List.length_drop] at i2
          simp only [List.length_cons]
          omega
theorem places_good {S : Txt} : ∀ {lo : Nat} {l : List Tk}, PlT S lo l → ∀ t ∈ l, GoodT t
  | _, _ :: r, h, t, ht => by
    rcases List.mem_cons.1 ht with rfl | ht
    · obtain ⟨n, h1⟩ := h.2.2.1
      exact good_of h1 _
    · exact places_good h.2.2.2 t ht
/-- Names, a variable, a key. -/
theorem lex_names {s t : Txt} (hs : nameL s = true) (ht : nameL t = true) : lexGo ((s ++ 32 :: 36 :: (s ++ 32 :: 46 :: t)).length + 1) (s ++ 32 :: 36 :: (s ++ 32 :: 46 :: t)) 0 =
    some [⟨1, s, none, 0⟩, ⟨2, s, none, s.length + 1⟩, ⟨3, t, none, s.length + 1 + (s.length + 2)⟩] := by
  have one : ∀ {x : Txt} {k : Nat} {y : Txt} (f a : Nat), tokL x = some (k, y, none, x.length) → lexGo (f + 2) x a = some [⟨k, y, none, a⟩] := by
    intro x k y f a h
    obtain ⟨h1, h2⟩ := tok_nb h
    unfold lexGo
    rw [h2, if_neg h1, h]
    dsimp only
    rw [List.drop_length]
    have : lexGo (f + 1) [] (a + (x.length - x.length) + x.length) = some [] := by unfold lexGo; rfl
    rw [this]
    simp
  have h2 : ∀ g a, s.length + t.length + 4 < g → lexGo g (36 :: (s ++ 32 :: 46 :: t)) a = some [⟨2, s, none, a⟩, ⟨3, t, none, a + (s.length + 2)⟩] := by
    intro g a hg
    have := lex_join (b := 32) (by decide) 2 g (36 :: s) (46 :: t) a _ (one 0 a (tok_var hs)) (by simp; omega)
    obtain ⟨g', rfl⟩ : ∃ g', g = g' + 2 := ⟨g - 2, by omega⟩
    rw [one g' _ (tok_key ht)] at this
    exact this
  have := lex_join (b := 32) (by decide) 2 ((s ++ 32 :: 36 :: (s ++ 32 :: 46 :: t)).length + 1) s (36 :: (s ++ 32 :: 46 :: t)) 0 _ (one 0 0 (tok_name hs)) (by simp; omega)
  rw [this, h2 _ _ (by simp; omega)]
  simp [Nat.add_assoc]
theorem name_join {s t : Txt} (hs : nameL s = true) (ht : nameL t = true) : nameL (s ++ t) = decide (s.length + t.length ≤ 24) ∧ (s ++ t).takeWhile nameC = s ++ t ∧ ∃ c u, s ++ t = c :: u ∧ isLet c = true := by
  obtain ⟨s1, s2, s3⟩ := name_all hs
  obtain ⟨t1, t2, t3⟩ := name_all ht
  obtain ⟨c, u, e, hc⟩ := name_cons hs
  have hall : ∀ c ∈ s ++ t, nameC c = true := fun c h => (List.mem_append.1 h).elim (s1 c) (t1 c)
  refine ⟨?_, tw_all hall, c, u ++ t, by rw [e]; rfl, hc⟩
  have h1 : (s ++ t).all (fun c => isLet c || isOth c) = true := List.all_eq_true.2 hall
  have h2 : headLet (s ++ t) = true := by rw [e]; exact hc
  unfold nameL
  rw [h1, h2, List.length_append]
  simp
theorem lex_pair {s t : Txt} (hs : nameL s = true) (ht : nameL t = true) (f : Nat) : lexGo (f + 2) (s ++ t) 0 = if s.length + t.length ≤ 24 then some [⟨1, s ++ t, none, 0⟩] else none := by
  obtain ⟨h1, h2, c, u, e, hc⟩ := name_join hs ht
  by_cases h24 : s.length + t.length ≤ 24
  · rw [decide_eq_true h24] at h1
    have h := tok_name h1
    obtain ⟨n1, n2⟩ := tok_nb h
    rw [if_pos h24]
    unfold lexGo
    rw [n2, if_neg n1, h]
    dsimp only
    rw [List.drop_length]
    have : lexGo (f + 1) [] (0 + ((s ++ t).length - (s ++ t).length) + (s ++ t).length) = some [] := by unfold lexGo; rfl
    rw [this]
    simp
  · rw [decide_eq_false h24] at h1
    rw [if_neg h24]
    obtain ⟨l1, l2, l3⟩ := let_ne hc
    have hnb : bl c = false := by
      cases hb : bl c with
      | false => rfl
      | true => rcases bl_or hb with rfl | rfl | rfl | rfl <;> (revert hc; decide)
    have hd : (s ++ t).dropWhile bl = s ++ t := by rw [e, List.dropWhile_cons, hnb]; rfl
    have htk : tokL (s ++ t) = none := by
      rw [e] at h1 h2 ⊢
      unfold tokL
      dsimp only
      rw [if_neg l1, if_neg (fun h => l2 h.1), if_neg (fun h => l2 h.1), if_neg l3, if_pos hc]
      unfold nameTok
      rw [h2, h1]
      rfl
    unfold lexGo
    rw [hd, if_neg (by rw [e]; simp), htk]
end Go.Proofs.YtgjffkblhhkjmaaDoor
