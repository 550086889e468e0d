/- Letters in a row, dots in a row: what such patterns take. Plain. -/
import Derived.Test.YtaaikjedagnjbaaGStr
import Derived.Test.YtaaikjedagnjbaaGEval
import Derived.Test.YtaaikjedagnjbaaGTail
namespace Go.Proofs.Ytaaikjedagnjbaa
open Go Go.RowKit Go.Lib

/-- A rune of its own: itself, no sign. -/
def Own1 (f : Nat → Nat → Bool) (c : Nat) : Prop := ¬ (c = 124 ∨ c = 41) ∧ c ≠ 42 ∧ c ≠ 43 ∧ c ≠ 63 ∧ ∀ l, atomR 0 (c :: l) = some (.cls (f c), l)
/-- Some runes in a row, behind a part. -/
def lit (f : Nat → Nat → Bool) (acc : Re) (l : List Nat) : Re := l.foldl (fun a c => .seq a (.cls (f c))) acc
theorem seq_lit (f : Nat → Nat → Bool) : ∀ (l : List Nat) (acc : Re) (R : List Nat), (∀ c ∈ l, Own1 f c) → Stop3 R → seqR 0 acc (l ++ R) = seqR 0 (lit f acc l) R
  | [], _, _, _, _ => rfl
  | c :: l, acc, R, h, hR => by
    obtain ⟨h1, h2, h3, h4, h5⟩ := h c List.mem_cons_self
    have ih := seq_lit f l (.seq acc (.cls (f c))) R (fun x hx => h x (List.mem_cons_of_mem _ hx)) hR
    have hs : ∀ r : Re, signR r (l ++ R) = (r, l ++ R) := fun r => by
      cases l with
      | nil =>
        rcases hR with rfl | ⟨d, q, rfl, hd⟩
        · rfl
        · show signR r (d :: q) = _
          rw [sign_cons, if_neg (by omega), if_neg (by omega), if_neg (by omega)]; rfl
      | cons d q =>
        obtain ⟨-, k2, k3, k4, -⟩ := h d (List.mem_cons_of_mem _ List.mem_cons_self)
        show signR r (d :: (q ++ R)) = _
        rw [sign_cons, if_neg k2, if_neg k3, if_neg k4]; rfl
    show seqR 0 acc (c :: (l ++ R)) = _
    rw [seq_go h1 (h5 (l ++ R)), hs]
    exact ih
theorem parse_lit (f : Nat → Nat → Bool) {l : List Nat} (h : ∀ c ∈ l, Own1 f c) : parseR l = some (lit f .eps l) := by
  have h1 := seq_lit f l .eps [] h (.inl rfl)
  rw [List.append_nil] at h1
  unfold parseR
  rw [alt_step, h1, seq_nil]
  show (barR 0 _ []).bind _ = _
  rw [bar_nil]
  rfl
theorem parse_or (f : Nat → Nat → Bool) {l m : List Nat} (h : ∀ c ∈ l, Own1 f c) (h' : ∀ c ∈ m, Own1 f c) : parseR (l ++ 124 :: m) = some (.alt (lit f .eps l) (lit f .eps m)) := by
  have h1 := seq_lit f l .eps (124 :: m) h (.inr ⟨124, m, rfl, .inl rfl⟩)
  have h2 := seq_lit f m .eps [] h' (.inl rfl)
  rw [List.append_nil] at h2
  unfold parseR
  rw [alt_step, h1, seq_cons, if_pos (.inl rfl)]
  show (barR 0 _ (124 :: m)).bind _ = _
  rw [bar_cons, if_pos rfl, h2, seq_nil]
  show (barR 0 _ []).bind _ = _
  rw [bar_nil]
  rfl
theorem mt_lit {S : List Nat} (f : Nat → Nat → Bool) : ∀ (l : List Nat) (acc : Re) (i j : Nat), Mt S (lit f acc l) i j ↔ ∃ k, Mt S acc i k ∧ j = k + l.length ∧ ∀ (m c : Nat), l[m]? = some c → ∃ x, S[k + m]? = some x ∧ f c x = true
  | [], acc, i, j => by
    constructor
    · exact fun h => ⟨j, h, rfl, fun m c hm => by cases hm⟩
    · rintro ⟨k, h, rfl, -⟩
      exact h
  | c :: l, acc, i, j => by
    show Mt S (lit f (.seq acc (.cls (f c))) l) i j ↔ _
    rw [mt_lit f l]
    constructor
    · rintro ⟨k, h1, rfl, h3⟩
      obtain ⟨k0, h4, h5⟩ := mt_seq.1 h1
      obtain ⟨rfl, x, hx, hf⟩ := mt_cls.1 h5
      refine ⟨k0, h4, by simp only [List.length_cons]; omega, fun m d hm => ?_⟩
      cases m with
      | zero =>
        have : c = d := by simpa using hm
        subst this
        exact ⟨x, hx, hf⟩
      | succ m =>
        obtain ⟨y, hy, hg⟩ := h3 m d (by simpa using hm)
        exact ⟨y, by rw [show k0 + (m + 1) = k0 + 1 + m by omega]; exact hy, hg⟩
    · rintro ⟨k, h1, rfl, h3⟩
      obtain ⟨x, hx, hf⟩ := h3 0 c rfl
      refine ⟨k + 1, mt_seq.2 ⟨k, h1, mt_cls.2 ⟨rfl, x, hx, hf⟩⟩, by simp only [List.length_cons]; omega, fun m d hm => ?_⟩
      obtain ⟨y, hy, hg⟩ := h3 (m + 1) d (by simpa using hm)
      exact ⟨y, by rw [show k + 1 + m = k + (m + 1) by omega]; exact hy, hg⟩
/-- The rune itself. -/
def eqF (c x : Nat) : Bool := decide (x = c)
theorem lit_whole {S l : List Nat} : Mt S (lit eqF .eps l) 0 S.length ↔ S = l := by
  rw [mt_lit]
  constructor
  · rintro ⟨k, h1, h2, h3⟩
    obtain rfl := mt_eps.1 h1
    refine List.ext_getElem? fun m => ?_
    rcases Nat.lt_or_ge m l.length with h | h
    · obtain ⟨x, hx, hf⟩ := h3 m l[m] (List.getElem?_eq_getElem h)
      rw [Nat.zero_add] at hx
      have hf := of_decide_eq_true hf
      rw [hx, hf, List.getElem?_eq_getElem h]
    · rw [List.getElem?_eq_none (by omega), List.getElem?_eq_none h]
  · rintro rfl
    exact ⟨0, .eps 0, by omega, fun m c hm => ⟨c, by rw [Nat.zero_add]; exact hm, decide_eq_true rfl⟩⟩
theorem own_letter {c : Nat} (h1 : 97 ≤ c) (h2 : c ≤ 122) : Own1 eqF c := by
  refine ⟨by omega, by omega, by omega, by omega, fun l => ?_⟩
  have hm : markR c = false := by
    unfold markR
    simp
    omega
  rw [atom_cons, if_neg (by omega), if_neg (by omega), if_neg (by omega), if_neg (by omega), if_neg (by omega), if_neg (by omega), hm]
  rfl
/-- Any rune but a newline. -/
def dotF (_ x : Nat) : Bool := decide (x ≠ 10)
theorem own_dot : Own1 dotF 46 := ⟨by omega, by omega, by omega, by omega, fun l => by rw [atom_cons, if_neg (by omega), if_neg (by omega), if_pos rfl]; rfl⟩
theorem dots_whole {S : List Nat} {k : Nat} : Mt S (lit dotF .eps (List.replicate k 46)) 0 S.length ↔ S.length = k ∧ ¬ 10 ∈ S := by
  rw [mt_lit]
  constructor
  · rintro ⟨j, h1, h2, h3⟩
    obtain rfl := mt_eps.1 h1
    rw [List.length_replicate, Nat.zero_add] at h2
    refine ⟨h2, fun h10 => ?_⟩
    obtain ⟨m, hm, e⟩ := List.mem_iff_getElem.1 h10
    obtain ⟨x, hx, hf⟩ := h3 m 46 (by rw [List.getElem?_replicate, if_pos (by omega)])
    rw [Nat.zero_add, List.getElem?_eq_getElem hm, e] at hx
    injection hx with hx
    subst hx
    exact absurd rfl (of_decide_eq_true hf)
  · rintro ⟨h1, h2⟩
    refine ⟨0, .eps 0, by rw [List.length_replicate]; omega, fun m c hm => ?_⟩
    have hlt : m < k := by
      have := (List.getElem?_eq_some_iff.1 hm).1
      rwa [List.length_replicate] at this
    refine ⟨S[m]'(by omega), by rw [Nat.zero_add]; exact List.getElem?_eq_getElem (by omega), decide_eq_true fun e => h2 ?_⟩
    exact e ▸ List.getElem_mem (by omega)
/-- A rune below 128 is one byte. -/
theorem low_part {l : List UInt8} (hb : ¬ Bad l) (hne : l ≠ []) (h : (decodeL l).1 < 128) : ∃ c, l.take (wd l) = [c] ∧ c.toNat = (decodeL l).1 := by
  have hw : wd l = 1 := by
    unfold wd
    unfold Bad at hb
    rw [decodeL_N l] at hb h ⊢
    rcases decodeN_shape l.length (l.getD 0 0).toNat (l.getD 1 0).toNat (l.getD 2 0).toNat (l.getD 3 0).toNat with ⟨c, e⟩ | ⟨c1, c2, c3, cv, e⟩ | ⟨c1, c2, c3, c4, cv, cs, e⟩ | ⟨c1, c2, c3, c4, c5, cv, cw, e⟩ | e
    · rw [e]
    · rw [e] at h; dsimp only at h; omega
    · rw [e] at h; dsimp only at h; omega
    · rw [e] at h; dsimp only at h; omega
    · rw [e]
  obtain ⟨c, t, rfl, h1, h2⟩ := low_byte hb hw hne
  exact ⟨c, by rw [hw]; rfl, by rw [h2]⟩
/-- A text whose runes are all below 128 is these. -/
theorem valid_low : ∀ l : List UInt8, validD l = true → (∀ c ∈ cpsL l, c < 128) → l.map UInt8.toNat = cpsL l := by
  refine valid_ind (fun _ => rfl) ?_
  intro l hne hb hv ih h
  rw [cps_cons hne] at h ⊢
  obtain ⟨c, e1, e2⟩ := low_part hb hne (h _ List.mem_cons_self)
  have h1 : l = [c] ++ l.drop (wd l) := by rw [← e1, List.take_append_drop]
  conv => lhs; rw [h1]
  rw [List.map_append, ih (fun x hx => h x (List.mem_cons_of_mem _ hx)), ← e2]
  rfl
theorem cps_inj_low {s : ByteArray} {l : List Nat} (hs : okS s) (hl : ∀ c ∈ l, c < 128) : cps s = l ↔ s = asciiS l := by
  constructor
  · intro h
    have h1 := valid_low s.data.toList hs (by rw [show cpsL s.data.toList = l from h]; exact hl)
    rw [show cpsL s.data.toList = l from h] at h1
    refine ByteArray.ext ?_
    refine Array.toList_inj.1 ?_
    show s.data.toList = (l.map UInt8.ofNat).toArray.toList
    rw [List.toList_toArray, ← h1, List.map_map]
    conv => lhs; rw [← List.map_id s.data.toList]
    exact List.map_congr_left fun c _ => by simp
  · rintro rfl
    exact cps_asciiS hl
/-- The part of a newline. -/
theorem newline_part : ∀ l : List UInt8, validD l = true → ∀ k : Nat, (partsL l)[k]? = some [10] ↔ (cpsL l)[k]? = some 10 := by
  refine valid_ind (fun k => ?_) ?_
  · show ([] : List (List UInt8))[k]? = some [10] ↔ ([] : List Nat)[k]? = some 10
    simp
  · intro l hne hb hv ih k
    rw [parts_cons hne, cps_cons hne]
    cases k with
    | zero =>
      simp only [List.getElem?_cons_zero, Option.some.injEq]
      constructor
      · intro h
        have := decode_head l hne
        rw [h] at this
        rw [← this]; rfl
      · intro h
        obtain ⟨c, e1, e2⟩ := low_part hb hne (by rw [h]; decide)
        rw [e1]
        rw [h] at e2
        congr 1
        exact UInt8.toNat_inj.1 e2
    | succ k => simpa using ih k
theorem newline_any {l : List UInt8} (h : validD l = true) : ((partsL l).any fun p => p == [10]) = decide (10 ∈ cpsL l) := by
  rw [Bool.eq_iff_iff, List.any_eq_true, decide_eq_true_eq]
  constructor
  · rintro ⟨p, hp, he⟩
    have he : p = [10] := by simpa using he
    subst he
    obtain ⟨k, hk, e⟩ := List.mem_iff_getElem.1 hp
    have := (newline_part l h k).1 (by rw [List.getElem?_eq_getElem hk, e])
    exact List.mem_of_getElem? this
  · intro hm
    obtain ⟨k, hk, e⟩ := List.mem_iff_getElem.1 hm
    have := (newline_part l h k).2 (by rw [List.getElem?_eq_getElem hk, e])
    exact ⟨[10], List.mem_of_getElem? this, by simp⟩
end Go.Proofs.Ytaaikjedagnjbaa
