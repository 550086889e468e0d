/- Plain: what was written is read as it was; cut, it is none; what is read is valid. -/
import Derived.Test.YtgjffkblhhkjmaaDoorQSpec
namespace Go.Proofs.YtgjffkblhhkjmaaDoor
open Go Go.Lib

theorem unq_back (l more : List UInt8) (hv : validD l = true) (hl : l.length ≤ 4096) : unq (quoteL l ++ more) = (l, (quoteL l).length, 0) := by
  show unqGo ((body l ++ [34] ++ more).length + 1) (body l ++ [34] ++ more) [] 1 = _
  rw [List.append_assoc]
  obtain ⟨g, hg, hgo⟩ := unq_body l hv ((body l ++ ([34] ++ more)).length + 1) ([34] ++ more) [] 1 (by rw [List.length_append]; omega)
  rw [hgo]
  rw [List.length_append] at hg
  obtain ⟨g', rfl⟩ : ∃ g', g = g' + 1 := ⟨g - 1, by simp at hg; omega⟩
  show unqGo (g' + 1) (34 :: more) ([] ++ l) (1 + (body l).length) = _
  simp only [unqGo]
  rw [if_pos trivial, if_neg (by rw [List.nil_append]; omega), length_quoteL, List.nil_append]
  congr 2
  omega
/-- A beginning of what is written for a byte, the byte's not whole. -/
theorem cut_byte (c : UInt8) (j : Nat) (hj : j < (qb c).length) (f : Nat) (out : List UInt8) (a : Nat) : unqGo f ((qb c).take j) out a = ([], 0, 6) := by
  cases f with
  | zero => rfl
  | succ f =>
    rcases qb_shape c with ⟨h1, _⟩ | ⟨x, h1, h2, _⟩ | ⟨h1, _⟩
    · rw [h1] at hj ⊢
      have : j = 0 := by simp at hj; omega
      subst this
      rfl
    · rw [h1] at hj ⊢
      have : j = 0 ∨ j = 1 := by simp at hj; omega
      rcases this with rfl | rfl
      · rfl
      · rfl
    · rw [h1] at hj ⊢
      have e1 : simpleE 117 = none := by decide
      have : j = 0 ∨ j = 1 ∨ j = 2 ∨ j = 3 ∨ j = 4 ∨ j = 5 := by simp at hj; omega
      rcases this with rfl | rfl | rfl | rfl | rfl | rfl <;> rfl
theorem unq_cut_body : ∀ l, validD l = true → ∀ (f j : Nat) (out : List UInt8) (a : Nat), j ≤ (body l).length → unqGo f ((body l).take j) out a = ([], 0, 6) := by
  refine valid_ind (fun f j out a _ => by cases f <;> simp [body, unqGo]) ?_
  intro l hne hb hv ih f j out a hj
  have e : l = l.take (wd l) ++ l.drop (wd l) := (List.take_append_drop _ _).symm
  have eb : body l = body (l.take (wd l)) ++ body (l.drop (wd l)) := by rw [← body_append, ← e]
  cases f with
  | zero => rfl
  | succ f =>
  rcases Nat.lt_or_ge 1 (wd l) with h1 | h1
  · have hh := high_bytes (l := l) (by omega)
    rw [body_high _ hh] at eb
    rw [eb] at hj ⊢
    have hlen : (l.take (wd l)).length = wd l := by rw [List.length_take]; have := wd_le l hne; omega
    rw [List.length_append, hlen] at hj
    by_cases hjw : j < wd l
    · rw [List.take_append_of_le_length (by omega), List.take_take, Nat.min_eq_left (by omega)]
      by_cases hj0 : j = 0
      · subst hj0
        rfl
      · have hbad := cut_bad (l := l) (j := j) (by omega) hjw
        obtain ⟨c, t, hct⟩ := List.exists_cons_of_ne_nil (show l.take j ≠ [] from fun h => by
          have := congrArg List.length h
          rw [List.length_take, List.length_nil] at this
          have := List.length_pos_iff.2 hne
          omega)
        have hc : c ∈ l.take (wd l) := by
          have h9 : (l.take j)[0]? = some c := by rw [hct]; rfl
          rw [List.getElem?_take, if_pos (by omega)] at h9
          exact List.mem_of_getElem? (i := 0) (by rw [List.getElem?_take, if_pos (by omega)]; exact h9)
        have hc1 := hh c hc
        rw [hct] at hbad ⊢
        simp only [unqGo]
        rw [if_neg (by rintro rfl; revert hc1; decide), if_neg (by rintro rfl; revert hc1; decide), if_pos (.inl hbad)]
    · obtain ⟨k, rfl⟩ : ∃ k, j = wd l + k := ⟨j - wd l, by omega⟩
      have e2 : (l.take (wd l) ++ body (l.drop (wd l))).take (wd l + k) = l.take (wd l) ++ (body (l.drop (wd l))).take k := by
        rw [List.take_append, hlen, List.take_of_length_le (by omega)]
        congr 2
        omega
      rw [e2]
      obtain ⟨c, t, hct⟩ := List.exists_cons_of_ne_nil (front_ne (m := (body (l.drop (wd l))).take k) hne)
      have hc : c ∈ l.take (wd l) := by
        have h9 : (l.take (wd l) ++ (body (l.drop (wd l))).take k)[0]? = some c := by rw [hct]; rfl
        rw [List.getElem?_append_left (by omega)] at h9
        exact List.mem_of_getElem? h9
      have hc1 := hh c hc
      have hdrop := drop_front (m := (body (l.drop (wd l))).take k) hne
      have hwd := wd_front (m := (body (l.drop (wd l))).take k) hb hne
      rw [hct] at hdrop hwd ⊢
      simp only [unqGo]
      rw [if_neg (by rintro rfl; revert hc1; decide), if_neg (by rintro rfl; revert hc1; decide)]
      by_cases hx : Bad (c :: t) ∨ (decodeL (c :: t)).1 < 32
      · rw [if_pos hx]
      · rw [if_neg hx, hwd, hdrop]
        exact ih f k _ _ (by omega)
  · obtain ⟨c, t, rfl, hc, hd⟩ := low_byte hb (by have := wd_pos l; omega) hne
    have hw : wd (c :: t) = 1 := by unfold wd; rw [hd]
    rw [hw] at ih
    simp only [List.drop_succ_cons, List.drop_zero] at ih
    have e2 : body (c :: t) = qb c ++ body t := rfl
    rw [e2, List.length_append] at hj
    rw [e2]
    by_cases hjq : j < (qb c).length
    · rw [List.take_append_of_le_length (by omega)]
      exact cut_byte c j hjq _ _ _
    · obtain ⟨k, rfl⟩ : ∃ k, j = (qb c).length + k := ⟨j - (qb c).length, by omega⟩
      have e3 : (qb c ++ body t).take ((qb c).length + k) = qb c ++ (body t).take k := by
        rw [List.take_append, List.take_of_length_le (by omega)]
        congr 2
        omega
      rw [e3, unq_byte c hc]
      exact ih f k _ _ (by omega)
theorem unq_cut (l : List UInt8) (hv : validD l = true) (k : Nat) (hk : k < (quoteL l).length) : unq ((quoteL l).take k) = ([], 0, 6) := by
  rw [length_quoteL] at hk
  cases k with
  | zero => rfl
  | succ k =>
    have e : (quoteL l).take (k + 1) = 34 :: (body l).take k := by
      show 34 :: (body l ++ [34]).take k = _
      rw [List.take_append_of_le_length (by omega)]
    rw [e]
    show unqGo (((body l).take k).length + 1) ((body l).take k) [] 1 = _
    exact unq_cut_body l hv _ k [] 1 (by omega)
theorem valid_low : ∀ (a b : List UInt8), (∀ c ∈ a, c.toNat < 128) → validD (a ++ b) = validD b
  | [], _, _ => rfl
  | c :: a, b, h => by
    rw [List.cons_append, validD_cons c _ (h c (by simp))]
    exact valid_low a b (fun d hd => h d (by simp [hd]))
theorem hexB_low (n : Nat) (h : n < 16) : (hexB n).toNat < 128 ∧ 32 ≤ (hexB n).toNat ∧ (hexB n) ≠ 127 := by
  have : ∀ m : Fin 16, (hexB m.val).toNat < 128 ∧ 32 ≤ (hexB m.val).toNat ∧ (hexB m.val) ≠ 127 := by decide
  exact this ⟨n, h⟩
theorem qb_low {c : UInt8} (h : c.toNat < 128) : ∀ x ∈ qb c, x.toNat < 128 := by
  intro x hx
  unfold qb at hx
  repeat' split at hx
  all_goals
    simp only [List.mem_cons, List.not_mem_nil, or_false] at hx
  · rcases hx with rfl | rfl
    · decide
    · exact h
  · rcases hx with rfl | rfl <;> decide
  · rcases hx with rfl | rfl <;> decide
  · rcases hx with rfl | rfl <;> decide
  · rcases hx with rfl | rfl | rfl | rfl | rfl | rfl
    · decide
    · decide
    · decide
    · decide
    · exact (hexB_low _ (by omega)).1
    · exact (hexB_low _ (by omega)).1
  · rw [hx]; exact h
theorem valid_body : ∀ l, validD l = true → ∀ m, validD (body l ++ m) = validD m := by
  refine valid_ind (fun m => rfl) ?_
  intro l hne hb hv ih m
  have e : l = l.take (wd l) ++ l.drop (wd l) := (List.take_append_drop _ _).symm
  have eb : body l = body (l.take (wd l)) ++ body (l.drop (wd l)) := by rw [← body_append, ← e]
  rcases Nat.lt_or_ge 1 (wd l) with h1 | h1
  · have hh := high_bytes (l := l) (by omega)
    rw [body_high _ hh] at eb
    rw [eb, List.append_assoc, valid_front hb hne, ih]
  · obtain ⟨c, t, rfl, hc, hd⟩ := low_byte hb (by have := wd_pos l; omega) hne
    have hw : wd (c :: t) = 1 := by unfold wd; rw [hd]
    rw [hw] at ih
    simp only [List.drop_succ_cons, List.drop_zero] at ih
    have e2 : body (c :: t) = qb c ++ body t := rfl
    rw [e2, List.append_assoc, valid_low _ _ (qb_low hc), ih]
theorem valid_quote (l : List UInt8) (hv : validD l = true) : validD (quoteL l) = true := by
  unfold quoteL
  rw [validD_cons 34 _ (by decide), valid_body l hv]
  decide

/-! What any text is read as -/
theorem encode_decode2 (x : Nat) (h : x < 55296 ∨ (57344 ≤ x ∧ x ≤ 1114111)) (m : List UInt8) : ¬ Bad (encodeRune (x : Int) ++ m) ∧ wd (encodeRune (x : Int) ++ m) = (encodeRune (x : Int)).length ∧ encodeRune (x : Int) ≠ [] := by
  rcases (show x < 128 ∨ (128 ≤ x ∧ x < 2048) ∨ ((2048 ≤ x ∧ x < 55296) ∨ (57344 ≤ x ∧ x ≤ 65535)) ∨ (65536 ≤ x ∧ x ≤ 1114111) from by omega) with h1 | h1 | h1 | h1
  · rw [encode_low h1]
    have hd : decodeL ([UInt8.ofNat x] ++ m) = (x, 1) := by
      have := decodeL_ascii (UInt8.ofNat x) m (by simp; omega)
      rw [List.singleton_append, this]
      congr 1
      simp
      omega
    unfold Bad wd
    rw [hd]
    exact ⟨by dsimp only; omega, rfl, by simp⟩
  · have e : encodeRune (x : Int) = [UInt8.ofNat (192 + x / 64), UInt8.ofNat (128 + x % 64)] := by
      unfold encodeRune
      rw [encodeRuneZ_two (by omega) (by omega)]
      simp only [List.map_cons, List.map_nil]
      rw [show (192 + (x : Int) / 64).toNat = 192 + x / 64 by omega, show (128 + (x : Int) % 64).toNat = 128 + x % 64 by omega]
    rw [e]
    have hd : decodeL ([UInt8.ofNat (192 + x / 64), UInt8.ofNat (128 + x % 64)] ++ m) = (x, 2) := by
      rw [decodeL_N]
      have a0 : (([UInt8.ofNat (192 + x / 64), UInt8.ofNat (128 + x % 64)] ++ m).getD 0 0).toNat = 192 + x / 64 := by simp; omega
      have a1 : (([UInt8.ofNat (192 + x / 64), UInt8.ofNat (128 + x % 64)] ++ m).getD 1 0).toNat = 128 + x % 64 := by simp; omega
      rw [a0, a1, decodeN_mk2 (by omega) (by simp) (by omega) (by omega)]
      refine Prod.ext ?_ rfl
      dsimp only
      omega
    unfold Bad wd
    rw [hd]
    exact ⟨by dsimp only; omega, rfl, by simp⟩
  · have e : encodeRune (x : Int) = [UInt8.ofNat (224 + x / 4096), UInt8.ofNat (128 + x / 64 % 64), UInt8.ofNat (128 + x % 64)] := by
      unfold encodeRune
      rw [encodeRuneZ_three (by omega)]
      simp only [List.map_cons, List.map_nil]
      rw [show (224 + (x : Int) / 4096).toNat = 224 + x / 4096 by omega, show (128 + (x : Int) / 64 % 64).toNat = 128 + x / 64 % 64 by omega, show (128 + (x : Int) % 64).toNat = 128 + x % 64 by omega]
    rw [e]
    have hd : decodeL ([UInt8.ofNat (224 + x / 4096), UInt8.ofNat (128 + x / 64 % 64), UInt8.ofNat (128 + x % 64)] ++ m) = (x, 3) := by
      rw [decodeL_N]
      have a0 : (([UInt8.ofNat (224 + x / 4096), UInt8.ofNat (128 + x / 64 % 64), UInt8.ofNat (128 + x % 64)] ++ m).getD 0 0).toNat = 224 + x / 4096 := by simp; omega
      have a1 : (([UInt8.ofNat (224 + x / 4096), UInt8.ofNat (128 + x / 64 % 64), UInt8.ofNat (128 + x % 64)] ++ m).getD 1 0).toNat = 128 + x / 64 % 64 := by simp; omega
      have a2 : (([UInt8.ofNat (224 + x / 4096), UInt8.ofNat (128 + x / 64 % 64), UInt8.ofNat (128 + x % 64)] ++ m).getD 2 0).toNat = 128 + x % 64 := by simp; omega
      rw [a0, a1, a2, decodeN_mk3 (by omega) (by simp) (by omega) (by omega) (by omega) (by omega)]
      refine Prod.ext ?_ rfl
      dsimp only
      omega
    unfold Bad wd
    rw [hd]
    exact ⟨by dsimp only; omega, rfl, by simp⟩
  · have e : encodeRune (x : Int) = [UInt8.ofNat (240 + x / 262144), UInt8.ofNat (128 + x / 4096 % 64), UInt8.ofNat (128 + x / 64 % 64), UInt8.ofNat (128 + x % 64)] := by
      unfold encodeRune
      rw [encodeRuneZ_four (by omega) (by omega)]
      simp only [List.map_cons, List.map_nil]
      rw [show (240 + (x : Int) / 262144).toNat = 240 + x / 262144 by omega, show (128 + (x : Int) / 4096 % 64).toNat = 128 + x / 4096 % 64 by omega, show (128 + (x : Int) / 64 % 64).toNat = 128 + x / 64 % 64 by omega, show (128 + (x : Int) % 64).toNat = 128 + x % 64 by omega]
    rw [e]
    have hd : decodeL ([UInt8.ofNat (240 + x / 262144), UInt8.ofNat (128 + x / 4096 % 64), UInt8.ofNat (128 + x / 64 % 64), UInt8.ofNat (128 + x % 64)] ++ m) = (x, 4) := by
      rw [decodeL_N]
      have a0 : (([UInt8.ofNat (240 + x / 262144), UInt8.ofNat (128 + x / 4096 % 64), UInt8.ofNat (128 + x / 64 % 64), UInt8.ofNat (128 + x % 64)] ++ m).getD 0 0).toNat = 240 + x / 262144 := by simp; omega
      have a1 : (([UInt8.ofNat (240 + x / 262144), UInt8.ofNat (128 + x / 4096 % 64), UInt8.ofNat (128 + x / 64 % 64), UInt8.ofNat (128 + x % 64)] ++ m).getD 1 0).toNat = 128 + x / 4096 % 64 := by simp; omega
      have a2 : (([UInt8.ofNat (240 + x / 262144), UInt8.ofNat (128 + x / 4096 % 64), UInt8.ofNat (128 + x / 64 % 64), UInt8.ofNat (128 + x % 64)] ++ m).getD 2 0).toNat = 128 + x / 64 % 64 := by simp; omega
      have a3 : (([UInt8.ofNat (240 + x / 262144), UInt8.ofNat (128 + x / 4096 % 64), UInt8.ofNat (128 + x / 64 % 64), UInt8.ofNat (128 + x % 64)] ++ m).getD 3 0).toNat = 128 + x % 64 := by simp; omega
      rw [a0, a1, a2, a3, decodeN_mk4 (by omega) (by simp) (by omega) (by omega) (by omega) (by omega) (by omega)]
      refine Prod.ext ?_ rfl
      dsimp only
      omega
    unfold Bad wd
    rw [hd]
    exact ⟨by dsimp only; omega, rfl, by simp⟩
theorem valid_encode (x : Nat) (h : x < 55296 ∨ (57344 ≤ x ∧ x ≤ 1114111)) : validD (encodeRune (x : Int)) = true := by
  obtain ⟨h1, h2, h3⟩ := encode_decode2 x h []
  rw [List.append_nil] at h1 h2
  rw [valid_yes h1 h3, h2, List.drop_length]
  rfl
theorem hexV_lt {c : UInt8} {x : Nat} (h : hexV c = some x) : x < 16 := by
  unfold hexV at h
  repeat' split at h
  all_goals first
    | (injection h with h; omega)
    | cases h
theorem four_lt {l : List UInt8} {x : Nat} (h : four l = some x) : x < 65536 ∧ 4 ≤ l.length := by
  unfold four at h
  split at h
  · rename_i a b c d t
    split at h
    · rename_i x1 x2 x3 x4 e1 e2 e3 e4
      injection h with h
      have := hexV_lt e1
      have := hexV_lt e2
      have := hexV_lt e3
      have := hexV_lt e4
      exact ⟨by omega, by simp⟩
    · cases h
  · cases h
theorem unitL_lt {l : List UInt8} {x : Nat} (h : unitL l = some x) : x < 65536 ∧ 6 ≤ l.length := by
  unfold unitL at h
  split at h
  · rename_i a b t
    split at h
    · have := four_lt h
      exact ⟨this.1, by simp; omega⟩
    · cases h
  · cases h
theorem simpleE_lt {c : UInt8} {x : Nat} (h : simpleE c = some x) : x < 128 := by
  unfold simpleE at h
  repeat' split at h
  all_goals first
    | (injection h with h; omega)
    | cases h
/-- An escape's rune is one, and it lies within the text. -/
theorem escL_in {l : List UInt8} {r n : Nat} (h : escL l = some (r, n)) : (r < 55296 ∨ (57344 ≤ r ∧ r ≤ 1114111)) ∧ 2 ≤ n ∧ n ≤ l.length := by
  unfold escL at h
  split at h
  · rename_i a c t
    split at h
    · rename_i x hx
      injection h with h
      injection h with h1 h2
      have := simpleE_lt hx
      exact ⟨by omega, by omega, by simp; omega⟩
    · split at h
      · cases h
      · rename_i x hx
        have hu := unitL_lt hx
        split at h
        · cases h
        · rename_i h55
          split at h
          · rename_i h54
            injection h with h
            injection h with h1 h2
            exact ⟨by omega, by omega, by omega⟩
          · split at h
            · rename_i y hy
              have hv := unitL_lt hy
              rw [List.length_drop] at hv
              split at h
              · injection h with h
                injection h with h1 h2
                exact ⟨by omega, by omega, by omega⟩
              · cases h
            · cases h
  · cases h
/-- What reading gives of any text. -/
def Fine (k : Nat) (r : List UInt8 × Nat × Int) : Prop := (r.2.2 = 0 → validD r.1 = true ∧ 2 ≤ r.2.1 ∧ r.2.1 ≤ k) ∧ (r.2.2 ≠ 0 → r.2.1 = 0 ∧ r.1 = []) ∧ (r.2.2 = 0 ∨ r.2.2 = 3 ∨ r.2.2 = 6) ∧ r.1.length ≤ 4096
theorem fine_no (k : Nat) (e : Int) (h : e = 3 ∨ e = 6) : Fine k ([], 0, e) := by
  unfold Fine
  dsimp only
  exact ⟨fun h0 => by omega, fun _ => ⟨rfl, rfl⟩, by omega, by simp⟩
theorem unqGo_fine : ∀ (f : Nat) (l out : List UInt8) (a k : Nat), validD out = true → 1 ≤ a → a + l.length ≤ k → Fine k (unqGo f l out a)
  | 0, _, _, _, k, _, _, _ => fine_no k 6 (.inr rfl)
  | f + 1, [], _, _, k, _, _, _ => fine_no k 6 (.inr rfl)
  | f + 1, c :: t, out, a, k, hv, ha, hk => by
    simp only [unqGo]
    split
    · split
      · exact fine_no k 3 (.inl rfl)
      · refine ⟨fun _ => ⟨hv, ?_, ?_⟩, fun h => absurd rfl h, .inl rfl, ?_⟩
        · show 2 ≤ a + 1
          omega
        · show a + 1 ≤ k
          simp only [List.length_cons] at hk
          omega
        · show out.length ≤ 4096
          omega
    · split
      · split
        · exact fine_no k 6 (.inr rfl)
        · rename_i r n he
          obtain ⟨h1, h2, h3⟩ := escL_in he
          refine unqGo_fine f _ _ _ k ?_ (by omega) (by rw [List.length_drop]; omega)
          rw [valid_append out hv, valid_encode r h1]
      · split
        · exact fine_no k 6 (.inr rfl)
        · rename_i hb
          have hb' : ¬ Bad (c :: t) := fun h => hb (.inl h)
          have hw := wd_le (c :: t) (by simp)
          refine unqGo_fine f _ _ _ k ?_ (by omega) (by rw [List.length_drop]; omega)
          rw [valid_append out hv]
          have := valid_front (m := []) hb' (by simp)
          rw [List.append_nil] at this
          rw [this]
          rfl
theorem unq_fine (l : List UInt8) : Fine l.length (unq l) := by
  unfold unq
  split
  · exact fine_no _ 6 (.inr rfl)
  · split
    · exact unqGo_fine _ _ _ _ _ rfl (by omega) (by simp; omega)
    · exact fine_no _ 6 (.inr rfl)
end Go.Proofs.YtgjffkblhhkjmaaDoor
