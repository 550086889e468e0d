/- Plain: names of categories, the parts of a text between blanks, masks of names. No program in sight. -/
namespace Go.Proofs.YtgjffkblhhkjmaaDoor

abbrev Txt := List UInt8
def isLet (c : UInt8) : Bool := decide (97 ≤ c.toNat) && decide (c.toNat ≤ 122)
def isOth (c : UInt8) : Bool := (decide (48 ≤ c.toNat) && decide (c.toNat ≤ 57)) || decide (c.toNat = 95)
def headLet : Txt → Bool
  | c :: _ => isLet c
  | [] => false
/-- Which text is a name. -/
def nameL (L : Txt) : Bool := L.all (fun c => isLet c || isOth c) && (headLet L && decide (L.length ≤ 24))
/-- Which rows of names are categories: 0, or the error's number. -/
def mayC (C : List Txt) : Int := if 64 < C.length then 3 else if C.Nodup ∧ ∀ x ∈ C, nameL x = true then 0 else 20
theorem may_zero {C : List Txt} (h : mayC C = 0) : C.length ≤ 64 ∧ C.Nodup ∧ ∀ x ∈ C, nameL x = true := by
  unfold mayC at h
  split at h
  · cases h
  · split at h
    · rename_i h1 h2
      exact ⟨by omega, h2⟩
    · cases h
theorem name_ne {x : Txt} (h : nameL x = true) : x ≠ [] ∧ (32 : UInt8) ∉ x := by
  unfold nameL at h
  simp only [Bool.and_eq_true, List.all_eq_true] at h
  constructor
  · rintro rfl
    exact absurd h.2.1 (by simp [headLet])
  · intro hm
    have := h.1 32 hm
    revert this
    decide

/-- The pieces between blanks. -/
def pieces : Txt → List Txt
  | [] => [[]]
  | c :: t => if c = 32 then [] :: pieces t else match pieces t with
    | x :: r => (c :: x) :: r
    | [] => [[c]]
theorem pieces_ne (L : Txt) : pieces L ≠ [] := by
  cases L with
  | nil => simp [pieces]
  | cons c t =>
    unfold pieces
    split
    · simp
    · split <;> simp
theorem pieces_none : ∀ {x : Txt}, (32 : UInt8) ∉ x → pieces x = [x]
  | [], _ => rfl
  | c :: t, h => by
    have hc : c ≠ 32 := fun e => h (by rw [e]; exact List.mem_cons_self)
    have ih := pieces_none (x := t) (fun hm => h (List.mem_cons_of_mem _ hm))
    unfold pieces
    rw [if_neg hc, ih]
theorem pieces_cut : ∀ {x : Txt} (r : Txt), (32 : UInt8) ∉ x → pieces (x ++ 32 :: r) = x :: pieces r
  | [], r, _ => by show pieces (32 :: r) = _; rw [pieces, if_pos rfl]
  | c :: t, r, h => by
    have hc : c ≠ 32 := fun e => h (by rw [e]; exact List.mem_cons_self)
    have ih := pieces_cut (x := t) r (fun hm => h (List.mem_cons_of_mem _ hm))
    show pieces (c :: (t ++ 32 :: r)) = _
    rw [pieces, if_neg hc, ih]
/-- The words of a text. -/
def wordsL (L : Txt) : List Txt := (pieces L).filter (fun x => !x.isEmpty)
theorem words_cut {x : Txt} (r : Txt) (h : (32 : UInt8) ∉ x) : wordsL (x ++ 32 :: r) = (if x = [] then [] else [x]) ++ wordsL r := by
  unfold wordsL
  rw [pieces_cut r h]
  cases x <;> simp
theorem words_none {x : Txt} (h : (32 : UInt8) ∉ x) : wordsL x = if x = [] then [] else [x] := by
  unfold wordsL
  rw [pieces_none h]
  cases x <;> simp
theorem words_blank (r : Txt) : wordsL (32 :: r) = wordsL r := words_cut (x := []) r (by simp)
def joinB : List Txt → Txt
  | [] => []
  | [x] => x
  | x :: y :: r => x ++ 32 :: joinB (y :: r)
theorem words_join : ∀ {l : List Txt}, (∀ x ∈ l, x ≠ [] ∧ (32 : UInt8) ∉ x) → wordsL (joinB l) = l
  | [], _ => rfl
  | [x], h => by
    have := h x (by simp)
    show wordsL x = _
    rw [words_none this.2, if_neg this.1]
  | x :: y :: r, h => by
    have hx := h x (by simp)
    show wordsL (x ++ 32 :: joinB (y :: r)) = _
    rw [words_cut _ hx.2, if_neg hx.1, words_join (fun z hz => h z (List.mem_cons_of_mem _ hz))]
    rfl

/-- The mask of words, on top of one. -/
def maskW (C : List Txt) : List Txt → Nat → Option Nat
  | [], m => some m
  | x :: r, m => match C.findIdx? (· == x) with
    | some i => maskW C r (m ||| 2 ^ i)
    | none => none
def maskL (C : List Txt) (L : Txt) : Option Nat := maskW C (wordsL L) 0
theorem idx_none {C : List Txt} {x : Txt} (h : x ∉ C) : C.findIdx? (· == x) = none := by
  rw [List.findIdx?_eq_none_iff]
  intro y hy
  rw [beq_eq_false_iff_ne]
  rintro rfl
  exact h hy
theorem idx_some {C : List Txt} (hn : C.Nodup) {i : Nat} {x : Txt} (h : C[i]? = some x) : C.findIdx? (· == x) = some i := by
  rw [List.findIdx?_eq_some_iff_getElem]
  obtain ⟨hi, hx⟩ := List.getElem?_eq_some_iff.1 h
  refine ⟨hi, by rw [hx]; simp, fun j hj => ?_⟩
  intro e
  have e2 : C[j] = x := eq_of_beq e
  exact (List.pairwise_iff_getElem.1 hn j i (by omega) hi hj) (by rw [e2, hx])
theorem idx_mem {C : List Txt} {x : Txt} (h : x ∈ C) : ∃ i, C[i]? = some x ∧ i < C.length := by
  obtain ⟨i, hi, e⟩ := List.getElem_of_mem h
  exact ⟨i, by rw [List.getElem?_eq_getElem hi, e], hi⟩
theorem idx_inj {C : List Txt} (hn : C.Nodup) {i j : Nat} {x : Txt} (h : C[i]? = some x) (k : C[j]? = some x) : i = j := by
  have a := idx_some hn h
  have b := idx_some hn k
  rw [a] at b
  injection b
/-- What a mask of words is, bit by bit. -/
theorem maskW_is {C : List Txt} (hn : C.Nodup) : ∀ (ws : List Txt) (m : Nat), (∀ x ∈ ws, x ∈ C) → ∃ M, maskW C ws m = some M ∧ ∀ j, M.testBit j = (m.testBit j || decide (∃ x ∈ ws, C[j]? = some x))
  | [], m, _ => ⟨m, rfl, fun j => by simp⟩
  | x :: r, m, h => by
    obtain ⟨i, hi, _⟩ := idx_mem (h x (by simp))
    obtain ⟨M, h1, h2⟩ := maskW_is hn r (m ||| 2 ^ i) (fun y hy => h y (List.mem_cons_of_mem _ hy))
    refine ⟨M, by rw [maskW, idx_some hn hi]; exact h1, fun j => ?_⟩
    rw [h2 j, Nat.testBit_or, Nat.testBit_two_pow, Bool.or_assoc]
    congr 1
    by_cases hij : i = j
    · subst hij
      have : ∃ y ∈ x :: r, C[i]? = some y := ⟨x, by simp, hi⟩
      rw [decide_eq_true rfl, decide_eq_true this, Bool.true_or]
    · rw [decide_eq_false hij, Bool.false_or]
      congr 1
      apply propext
      constructor
      · rintro ⟨y, hy, e⟩; exact ⟨y, List.mem_cons_of_mem _ hy, e⟩
      · rintro ⟨y, hy, e⟩
        rcases List.mem_cons.1 hy with rfl | hy
        · exact absurd (idx_inj hn hi e) hij
        · exact ⟨y, hy, e⟩
theorem maskW_none {C : List Txt} : ∀ (ws : List Txt) (m : Nat), (∃ x ∈ ws, x ∉ C) → maskW C ws m = none
  | [], _, h => by obtain ⟨x, hx, _⟩ := h; cases hx
  | x :: r, m, h => by
    rw [maskW]
    cases hi : C.findIdx? (· == x) with
    | none => rfl
    | some i =>
      refine maskW_none r _ ?_
      obtain ⟨y, hy, hn⟩ := h
      rcases List.mem_cons.1 hy with rfl | hy
      · rw [idx_none hn] at hi; cases hi
      · exact ⟨y, hy, hn⟩
theorem maskW_lt {C : List Txt} (hl : C.length ≤ 64) : ∀ (ws : List Txt) (m M : Nat), m < 2 ^ 64 → maskW C ws m = some M → M < 2 ^ 64
  | [], m, M, hm, h => by injection h with h; omega
  | x :: r, m, M, hm, h => by
    rw [maskW] at h
    cases hi : C.findIdx? (· == x) with
    | none => rw [hi] at h; cases h
    | some i =>
      rw [hi] at h
      refine maskW_lt hl r _ M ?_ h
      have hi2 : i < C.length := by
        rw [List.findIdx?_eq_some_iff_getElem] at hi
        exact hi.1
      exact Nat.or_lt_two_pow hm (Nat.pow_lt_pow_right (by decide) (by omega))
/-- The names of a mask. -/
def namesF : List Txt → Nat → Nat → List Txt
  | [], _, _ => []
  | x :: r, m, i => if m.testBit i then x :: namesF r m (i + 1) else namesF r m (i + 1)
def namesL (C : List Txt) (m : Nat) : List Txt := namesF C m 0
theorem namesF_mem : ∀ (C : List Txt) (m i : Nat) (x : Txt), x ∈ namesF C m i ↔ ∃ j, C[j]? = some x ∧ m.testBit (i + j) = true
  | [], m, i, x => by simp [namesF]
  | y :: r, m, i, x => by
    have ih := namesF_mem r m (i + 1) x
    have key : (∃ j, (y :: r)[j]? = some x ∧ m.testBit (i + j) = true) ↔ (y = x ∧ m.testBit i = true) ∨ ∃ j, r[j]? = some x ∧ m.testBit (i + 1 + j) = true := by
      constructor
      · rintro ⟨j, h1, h2⟩
        cases j with
        | zero => left; simp at h1; exact ⟨h1, h2⟩
        | succ j => right; simp at h1; exact ⟨j, h1, by rw [show i + 1 + j = i + (j + 1) by omega]; exact h2⟩
      · rintro (⟨h1, h2⟩ | ⟨j, h1, h2⟩)
        · exact ⟨0, by simp [h1], h2⟩
        · exact ⟨j + 1, by simpa using h1, by rw [show i + (j + 1) = i + 1 + j by omega]; exact h2⟩
    rw [key]
    unfold namesF
    split
    · rename_i h
      rw [List.mem_cons, ih]
      constructor
      · rintro (rfl | h3)
        · exact .inl ⟨rfl, h⟩
        · exact .inr h3
      · rintro (⟨rfl, _⟩ | h3)
        · exact .inl rfl
        · exact .inr h3
    · rename_i h
      rw [ih]
      constructor
      · exact .inr
      · rintro (⟨_, h2⟩ | h3)
        · exact absurd h2 h
        · exact h3
theorem names_mem {C : List Txt} {m : Nat} {x : Txt} : x ∈ namesL C m ↔ ∃ j, C[j]? = some x ∧ m.testBit j = true := by
  have := namesF_mem C m 0 x
  simp only [Nat.zero_add] at this
  exact this
theorem names_sub {C : List Txt} {m : Nat} : ∀ x ∈ namesL C m, x ∈ C := fun x h => by
  obtain ⟨j, h1, _⟩ := names_mem.1 h
  exact List.mem_of_getElem? h1
/-- The mask of the names of a mask is it, but for bits that are no category. -/
theorem mask_names {C : List Txt} (hn : C.Nodup) (m : Nat) : maskW C (namesL C m) 0 = some (m &&& (2 ^ C.length - 1)) := by
  obtain ⟨M, h1, h2⟩ := maskW_is hn (namesL C m) 0 names_sub
  rw [h1]
  congr 1
  apply Nat.eq_of_testBit_eq
  intro j
  rw [h2 j, Nat.zero_testBit, Bool.false_or, Nat.testBit_and, Nat.testBit_two_pow_sub_one]
  by_cases hj : j < C.length
  · rw [decide_eq_true hj, Bool.and_true]
    cases hb : m.testBit j with
    | true => exact decide_eq_true ⟨C[j], names_mem.2 ⟨j, List.getElem?_eq_getElem hj, hb⟩, List.getElem?_eq_getElem hj⟩
    | false =>
      apply decide_eq_false
      rintro ⟨x, hx, e⟩
      obtain ⟨k, h3, h4⟩ := names_mem.1 hx
      rw [idx_inj hn e h3, h4] at hb
      cases hb
  · rw [decide_eq_false hj, Bool.and_false]
    apply decide_eq_false
    rintro ⟨x, _, e⟩
    rw [List.getElem?_eq_none (by omega)] at e
    cases e
/-- Of one name its bit. -/
theorem mask_one {C : List Txt} (hn : C.Nodup) {i : Nat} {x : Txt} (h : C[i]? = some x) (m : Nat) : maskW C [x] m = some (m ||| 2 ^ i) := by
  rw [maskW, idx_some hn h]
  rfl
/-- How many names a mask has. -/
def cntF : Nat → Nat → Nat → Nat
  | 0, _, _ => 0
  | n + 1, m, i => (if m.testBit i then 1 else 0) + cntF n m (i + 1)
theorem namesF_len : ∀ (C : List Txt) (m i : Nat), (namesF C m i).length = cntF C.length m i
  | [], _, _ => rfl
  | x :: r, m, i => by
    unfold namesF
    show _ = (if m.testBit i then 1 else 0) + cntF r.length m (i + 1)
    rw [← namesF_len r m (i + 1)]
    split <;> simp [Nat.add_comm]
theorem cnt_parts : ∀ (n a b c i : Nat), (∀ j, c.testBit j = (a.testBit j && !b.testBit j)) → cntF n (a ||| b) i = cntF n c i + cntF n b i
  | 0, _, _, _, _, _ => rfl
  | n + 1, a, b, c, i, h => by
    unfold cntF
    rw [cnt_parts n a b c (i + 1) h, Nat.testBit_or, h i]
    cases a.testBit i <;> cases b.testBit i <;> simp <;> omega
theorem names_split : ∀ (C : List Txt) (m i k : Nat), namesF C m i = namesF (C.take k) m i ++ namesF (C.drop k) m (i + k)
  | [], _, _, _ => by simp [namesF]
  | x :: r, m, i, 0 => by simp [namesF]
  | x :: r, m, i, k + 1 => by
    simp only [List.take_succ_cons, List.drop_succ_cons, namesF]
    rw [names_split r m (i + 1) k, show i + 1 + k = i + (k + 1) by omega]
    split <;> simp
end Go.Proofs.YtgjffkblhhkjmaaDoor
