/- Plain: what a text in quotes is: written, and read. -/
import Derived.Test.YtgjffkblhhkjmaaDoorQLaw
namespace Go.Proofs.YtgjffkblhhkjmaaDoor
open Go Go.Lib

/-- A digit below 16, in hexadecimal. -/
def hexB (n : Nat) : UInt8 := if n < 10 then UInt8.ofNat (48 + n) else UInt8.ofNat (87 + n)
/-- A byte as it stands in quotes. -/
def qb (c : UInt8) : List UInt8 :=
  if c = 34 ∨ c = 92 then [92, c] else if c = 10 then [92, 110] else if c = 13 then [92, 114] else if c = 9 then [92, 116]
  else if c.toNat < 32 ∨ c = 127 then [92, 117, 48, 48, hexB (c.toNat / 16), hexB (c.toNat % 16)] else [c]
def body (l : List UInt8) : List UInt8 := l.flatMap qb
def quoteL (l : List UInt8) : List UInt8 := 34 :: (body l ++ [34])
/-- The value of a hexadecimal digit. -/
def hexV (c : UInt8) : Option Nat :=
  if 48 ≤ c.toNat ∧ c.toNat ≤ 57 then some (c.toNat - 48) else if 97 ≤ c.toNat ∧ c.toNat ≤ 102 then some (c.toNat - 87) else if 65 ≤ c.toNat ∧ c.toNat ≤ 70 then some (c.toNat - 55) else none
/-- The number of four of them. -/
def four : List UInt8 → Option Nat
  | a :: b :: c :: d :: _ => match hexV a, hexV b, hexV c, hexV d with
    | some x, some y, some z, some u => some (((x * 16 + y) * 16 + z) * 16 + u)
    | _, _, _, _ => none
  | _ => none
/-- What a letter behind a backslash stands for, but u. -/
def simpleE (c : UInt8) : Option Nat :=
  if c = 34 then some 34 else if c = 92 then some 92 else if c = 47 then some 47 else if c = 98 then some 8 else if c = 102 then some 12 else if c = 110 then some 10 else if c = 114 then some 13 else if c = 116 then some 9 else none
/-- The number behind \u, if that stands at the head. -/
def unitL : List UInt8 → Option Nat
  | a :: b :: t => if a = 92 ∧ b = 117 then four t else none
  | _ => none
/-- The rune for which a text that begins with a backslash stands, and how many bytes that has. -/
def escL (l : List UInt8) : Option (Nat × Nat) :=
  match l with
  | _ :: c :: _ => match simpleE c with
    | some r => some (r, 2)
    | none => match unitL l with
      | none => none
      | some x => if x / 1024 = 55 then none else if x / 1024 ≠ 54 then some (x, 6) else match unitL (l.drop 6) with
        | some y => if y / 1024 = 55 then some (65536 + (x % 1024) * 1024 + y % 1024, 12) else none
        | none => none
  | _ => none
/-- Reading on, behind the first quote: what was read so far, and where it stands. -/
def unqGo : Nat → List UInt8 → List UInt8 → Nat → List UInt8 × Nat × Int
  | 0, _, _, _ => ([], 0, 6)
  | f + 1, l, out, at_ => match l with
    | [] => ([], 0, 6)
    | c :: t => if c = 34 then (if 4096 < out.length then ([], 0, 3) else (out, at_ + 1, 0))
      else if c = 92 then (match escL (c :: t) with
        | none => ([], 0, 6)
        | some (r, n) => unqGo f ((c :: t).drop n) (out ++ encodeRune (r : Int)) (at_ + n))
      else if Bad (c :: t) ∨ (decodeL (c :: t)).1 < 32 then ([], 0, 6)
      else unqGo f ((c :: t).drop (wd (c :: t))) (out ++ (c :: t).take (wd (c :: t))) (at_ + wd (c :: t))
def unq (l : List UInt8) : List UInt8 × Nat × Int :=
  match l with
  | [] => ([], 0, 6)
  | c :: t => if c = 34 then unqGo (t.length + 1) t [] 1 else ([], 0, 6)

theorem body_append (a b : List UInt8) : body (a ++ b) = body a ++ body b := List.flatMap_append
theorem length_quoteL (l : List UInt8) : (quoteL l).length = (body l).length + 2 := by simp [quoteL]
theorem hexV_hexB (n : Nat) (h : n < 16) : hexV (hexB n) = some n := by
  have : ∀ m : Fin 16, hexV (hexB m.val) = some m.val := by decide
  exact this ⟨n, h⟩
/-- A byte that is escaped, what it is. -/
theorem qb_shape (c : UInt8) : (qb c = [c] ∧ c ≠ 34 ∧ c ≠ 92 ∧ 32 ≤ c.toNat ∧ c ≠ 127) ∨ (∃ x, qb c = [92, x] ∧ simpleE x = some c.toNat ∧ c.toNat < 128) ∨
    (qb c = [92, 117, 48, 48, hexB (c.toNat / 16), hexB (c.toNat % 16)] ∧ c.toNat < 128) := by
  unfold qb
  by_cases h1 : c = 34 ∨ c = 92
  · rw [if_pos h1]
    refine .inr (.inl ⟨c, rfl, ?_, ?_⟩)
    · rcases h1 with rfl | rfl <;> rfl
    · rcases h1 with rfl | rfl <;> decide
  · rw [if_neg h1]
    by_cases h2 : c = 10
    · subst h2; exact .inr (.inl ⟨110, rfl, rfl, by decide⟩)
    · rw [if_neg h2]
      by_cases h3 : c = 13
      · subst h3; exact .inr (.inl ⟨114, rfl, rfl, by decide⟩)
      · rw [if_neg h3]
        by_cases h4 : c = 9
        · subst h4; exact .inr (.inl ⟨116, rfl, rfl, by decide⟩)
        · rw [if_neg h4]
          by_cases h5 : c.toNat < 32 ∨ c = 127
          · rw [if_pos h5]
            refine .inr (.inr ⟨rfl, ?_⟩)
            rcases h5 with h5 | rfl
            · omega
            · decide
          · rw [if_neg h5]
            exact .inl ⟨rfl, fun h => h1 (.inl h), fun h => h1 (.inr h), by omega, fun h => h5 (.inr h)⟩
theorem qb_high {c : UInt8} (h : 128 ≤ c.toNat) : qb c = [c] := by
  rcases qb_shape c with ⟨h1, _⟩ | ⟨x, _, _, h1⟩ | ⟨_, h1⟩
  · exact h1
  · omega
  · omega
theorem body_high : ∀ l : List UInt8, (∀ b ∈ l, 128 ≤ b.toNat) → body l = l
  | [], _ => rfl
  | c :: l, h => by
    show qb c ++ body l = c :: l
    rw [qb_high (h c (by simp)), body_high l (fun b hb => h b (by simp [hb]))]
    rfl
theorem encode_low {n : Nat} (h : n < 128) : encodeRune (n : Int) = [UInt8.ofNat n] := by
  unfold encodeRune
  rw [encodeRuneZ_one (by omega) (by omega)]
  simp
theorem four_low (c : UInt8) (h : c.toNat < 128) (t : List UInt8) : four (48 :: 48 :: hexB (c.toNat / 16) :: hexB (c.toNat % 16) :: t) = some c.toNat := by
  have e0 : hexV 48 = some 0 := by decide
  simp only [four, e0, hexV_hexB (c.toNat / 16) (by omega), hexV_hexB (c.toNat % 16) (by omega)]
  congr 1
  omega
/-- What is written for a byte below 128 is read as it. -/
theorem unq_byte (c : UInt8) (h : c.toNat < 128) (f : Nat) (rest out : List UInt8) (a : Nat) : unqGo (f + 1) (qb c ++ rest) out a = unqGo f rest (out ++ [c]) (a + (qb c).length) := by
  have ec : UInt8.ofNat c.toNat = c := by simp
  rcases qb_shape c with ⟨h1, h2, h3, h4, h5⟩ | ⟨x, h1, h2, _⟩ | ⟨h1, _⟩
  · rw [h1]
    have hd : decodeL (c :: rest) = (c.toNat, 1) := decodeL_ascii c rest h
    have hb : ¬ (Bad (c :: rest) ∨ (decodeL (c :: rest)).1 < 32) := by
      unfold Bad
      rw [hd]
      dsimp only
      omega
    have hw : wd (c :: rest) = 1 := by unfold wd; rw [hd]
    show unqGo (f + 1) (c :: rest) out a = _
    simp only [unqGo]
    rw [if_neg h2, if_neg h3, if_neg hb, hw]
    rfl
  · rw [h1]
    show unqGo (f + 1) (92 :: x :: rest) out a = _
    have he : escL (92 :: x :: rest) = some (c.toNat, 2) := by simp only [escL, h2]
    simp only [unqGo]
    rw [if_neg (by decide), if_pos trivial, he]
    simp only
    rw [encode_low h, ec]
    rfl
  · rw [h1]
    show unqGo (f + 1) (92 :: 117 :: 48 :: 48 :: hexB (c.toNat / 16) :: hexB (c.toNat % 16) :: rest) out a = _
    have he : escL (92 :: 117 :: 48 :: 48 :: hexB (c.toNat / 16) :: hexB (c.toNat % 16) :: rest) = some (c.toNat, 6) := by
      have e1 : simpleE 117 = none := by decide
      simp only [escL, e1, unitL]
      rw [if_pos ⟨trivial, trivial⟩, four_low c h rest]
      simp only
      rw [if_neg (by omega), if_pos (by omega)]
    simp only [unqGo]
    rw [if_neg (by decide), if_pos trivial, he]
    simp only
    rw [encode_low h, ec]
    rfl
/-- What was written of a valid text is read as it was. -/
theorem unq_body : ∀ l, validD l = true → ∀ (f : Nat) (rest out : List UInt8) (a : Nat), (body l).length ≤ f → ∃ g, f ≤ g + (body l).length ∧ unqGo f (body l ++ rest) out a = unqGo g rest (out ++ l) (a + (body l).length) := by
  refine valid_ind (fun f rest out a _ => ⟨f, by simp [body], by simp [body]⟩) ?_
  intro l hne hb hv ih f rest out a hf
  have e : l = l.take (wd l) ++ l.drop (wd l) := (List.take_append_drop _ _).symm
  have eb : body l = body (l.take (wd l)) ++ body (l.drop (wd l)) := by rw [← body_append, ← e]
  rcases Nat.lt_or_ge 1 (wd l) with h1 | h1
  · have hh := high_bytes (l := l) (by omega)
    rw [body_high _ hh] at eb
    rw [eb] at hf ⊢
    have hlen : (l.take (wd l)).length = wd l := by rw [List.length_take]; have := wd_le l hne; omega
    rw [List.length_append, hlen] at hf
    obtain ⟨f', rfl⟩ : ∃ f', f = f' + 1 := ⟨f - 1, by omega⟩
    rw [List.append_assoc]
    obtain ⟨c, t, hct⟩ := List.exists_cons_of_ne_nil (front_ne (m := body (l.drop (wd l)) ++ rest) hne)
    have hc : c ∈ l.take (wd l) := by
      have h9 : (l.take (wd l) ++ (body (l.drop (wd l)) ++ rest))[0]? = some c := by rw [hct]; rfl
      rw [List.getElem?_append_left (by omega)] at h9
      exact List.mem_of_getElem? h9
    have hc1 := hh c hc
    have hbad := bad_front (m := body (l.drop (wd l)) ++ rest) hb hne
    have hdec := decode_front (m := body (l.drop (wd l)) ++ rest) hb hne
    have hwd := wd_front (m := body (l.drop (wd l)) ++ rest) hb hne
    have hdrop := drop_front (m := body (l.drop (wd l)) ++ rest) hne
    have htake : (l.take (wd l) ++ (body (l.drop (wd l)) ++ rest)).take (wd l) = l.take (wd l) := take_app (wd_le l hne)
    have hr32 : ¬ (decodeL l).1 < 32 := by
      intro h32
      have h8 : encodeRune ((decodeL l).1 : Int) = l.take (wd l) := encode_decode l hne hb
      rw [encode_low (by omega)] at h8
      have := congrArg List.length h8
      rw [hlen] at this
      simp at this
      omega
    have hstep : unqGo (f' + 1) (l.take (wd l) ++ (body (l.drop (wd l)) ++ rest)) out a = unqGo f' (body (l.drop (wd l)) ++ rest) (out ++ l.take (wd l)) (a + wd l) := by
      rw [hct] at hbad hdec hwd hdrop htake ⊢
      simp only [unqGo]
      rw [if_neg (by rintro rfl; revert hc1; decide), if_neg (by rintro rfl; revert hc1; decide), if_neg (by rw [hdec]; exact fun h => h.elim hbad hr32), hwd, hdrop, htake]
    rw [hstep]
    obtain ⟨g, hg, hgo⟩ := ih f' rest (out ++ l.take (wd l)) (a + wd l) (by omega)
    refine ⟨g, by rw [List.length_append, hlen]; omega, ?_⟩
    rw [hgo, List.append_assoc, List.take_append_drop, List.length_append, hlen, Nat.add_assoc]
  · obtain ⟨c, t, rfl, hc, hd⟩ := low_byte hb (by have := wd_pos l; omega) hne
    have hw : wd (c :: t) = 1 := by unfold wd; rw [hd]
    rw [hw] at ih
    simp only [List.drop_succ_cons, List.drop_zero] at ih
    have e2 : body (c :: t) = qb c ++ body t := rfl
    rw [e2, List.length_append] at hf
    have hq : 1 ≤ (qb c).length := by
      rcases qb_shape c with ⟨h1, _⟩ | ⟨x, h1, _⟩ | ⟨h1, _⟩ <;> rw [h1] <;> simp
    obtain ⟨f', rfl⟩ : ∃ f', f = f' + 1 := ⟨f - 1, by omega⟩
    obtain ⟨g, hg, hgo⟩ := ih f' rest (out ++ [c]) (a + (qb c).length) (by omega)
    refine ⟨g, by rw [e2, List.length_append]; omega, ?_⟩
    rw [e2, List.append_assoc, unq_byte c hc, hgo, List.length_append]
    simp [Nat.add_assoc]
end Go.Proofs.YtgjffkblhhkjmaaDoor
