/- A text as a pattern, each sign behind a backslash: it takes that text alone. Plain. -/
import Derived.Test.YtaaikjedagnjbaaGWordLaw
import Derived.Test.YtaaikjedagnjbaaRH
namespace Go.Proofs.Ytaaikjedagnjbaa
open Go Go.RowKit Go.Lib

theorem take_eq {l m : List UInt8} : ∀ {k : Nat}, k ≤ l.length → k ≤ m.length → (∀ i, i < k → (l.getD i 0).toNat = (m.getD i 0).toNat) → l.take k = m.take k := fun {k} h1 h2 h => by
  refine List.ext_getElem (by rw [List.length_take, List.length_take]; omega) fun i hi hj => ?_
  rw [List.length_take] at hi hj
  have := h i (by omega)
  rw [List.getElem_take, List.getElem_take]
  rw [List.getD_eq_getElem?_getD, List.getD_eq_getElem?_getD, List.getElem?_eq_getElem (by omega), List.getElem?_eq_getElem (by omega)] at this
  exact UInt8.toNat_inj.1 this
set_option maxHeartbeats 1600000 in
/-- A rune's bytes. -/
theorem rune_inj {l m : List UInt8} (h1 : l ≠ []) (h2 : ¬ Bad l) (h3 : m ≠ []) (h4 : ¬ Bad m) (h : (decodeL l).1 = (decodeL m).1) : l.take (wd l) = m.take (wd m) := by
  have w1 := wd_le l h1
  have w2 := wd_le m h3
  unfold wd at *
  unfold Bad at h2 h4
  rw [decodeL_N l] at *
  rw [decodeL_N m] at *
  have q0 := UInt8.toNat_lt (l.getD 0 0)
  have q1 := UInt8.toNat_lt (l.getD 1 0)
  have q2 := UInt8.toNat_lt (l.getD 2 0)
  have q3 := UInt8.toNat_lt (l.getD 3 0)
  have r0 := UInt8.toNat_lt (m.getD 0 0)
  have r1 := UInt8.toNat_lt (m.getD 1 0)
  have r2 := UInt8.toNat_lt (m.getD 2 0)
  have r3 := UInt8.toNat_lt (m.getD 3 0)
  have key : ∀ k : Nat, k ≤ l.length → k ≤ m.length → (0 < k → (l.getD 0 0).toNat = (m.getD 0 0).toNat) → (1 < k → (l.getD 1 0).toNat = (m.getD 1 0).toNat) → (2 < k → (l.getD 2 0).toNat = (m.getD 2 0).toNat) → (3 < k → (l.getD 3 0).toNat = (m.getD 3 0).toNat) → k ≤ 4 → l.take k = m.take k := fun k a b e0 e1 e2 e3 hk => take_eq a b fun i hi => by
    match i, hi with
    | 0, hi => exact e0 hi
    | 1, hi => exact e1 hi
    | 2, hi => exact e2 hi
    | 3, hi => exact e3 hi
    | n + 4, hi => omega
  generalize (l.getD 0 0).toNat = a0 at *
  generalize (l.getD 1 0).toNat = a1 at *
  generalize (l.getD 2 0).toNat = a2 at *
  generalize (l.getD 3 0).toNat = a3 at *
  generalize (m.getD 0 0).toNat = b0 at *
  generalize (m.getD 1 0).toNat = b1 at *
  generalize (m.getD 2 0).toNat = b2 at *
  generalize (m.getD 3 0).toNat = b3 at *
  rcases decodeN_shape l.length a0 a1 a2 a3 with ⟨c, e⟩ | ⟨c1, c2, c3, cv, e⟩ | ⟨c1, c2, c3, c4, cv, cs, e⟩ | ⟨c1, c2, c3, c4, c5, cv, cw, e⟩ | e
  all_goals rw [e] at h w1 h2 ⊢
  all_goals rcases decodeN_shape m.length b0 b1 b2 b3 with ⟨c, f⟩ | ⟨d1, d2, d3, dv, f⟩ | ⟨d1, d2, d3, d4, dv, ds, f⟩ | ⟨d1, d2, d3, d4, d5, dv, dw, f⟩ | f
  all_goals rw [f] at h w2 h4 ⊢
  all_goals dsimp only at h w1 w2 h2 h4 ⊢
  all_goals first
    | exact absurd ⟨rfl, rfl⟩ h2
    | exact absurd ⟨rfl, rfl⟩ h4
    | omega
    | exact key _ w1 w2 (fun _ => by omega) (fun _ => by omega) (fun _ => by omega) (fun _ => by omega) (by omega)
/-- No sign. -/
def ordN (c : Nat) : Bool := decide (48 ≤ c) && decide (c ≤ 57) || decide (97 ≤ c) && decide (c ≤ 122) || decide (65 ≤ c) && decide (c ≤ 90) || decide (126 < c) || decide (c < 33)
theorem ordN_true {c : Nat} : ordN c = true ↔ (((48 ≤ c ∧ c ≤ 57 ∨ 97 ≤ c ∧ c ≤ 122) ∨ 65 ≤ c ∧ c ≤ 90) ∨ 126 < c) ∨ c < 33 := by
  unfold ordN
  simp only [Bool.or_eq_true, Bool.and_eq_true, decide_eq_true_eq]
theorem ordN_false {c : Nat} (h : ordN c = false) : ¬ ((((48 ≤ c ∧ c ≤ 57 ∨ 97 ≤ c ∧ c ≤ 122) ∨ 65 ≤ c ∧ c ≤ 90) ∨ 126 < c) ∨ c < 33) := fun h2 => by
  rw [ordN_true.2 h2] at h
  cases h
def escC (c : Nat) : List Nat := if ordN c then [c] else [92, c]
theorem escC_head (c : Nat) : ∃ d t, escC c = d :: t ∧ ¬ (d = 124 ∨ d = 41) ∧ d ≠ 42 ∧ d ≠ 43 ∧ d ≠ 63 := by
  unfold escC
  split
  · rename_i h
    have := ordN_true.1 h
    exact ⟨c, [], rfl, by omega, by omega, by omega, by omega⟩
  · exact ⟨92, [c], rfl, by omega, by omega, by omega, by omega⟩
theorem escC_atom (c : Nat) (l : List Nat) : atomR 0 (escC c ++ l) = some (.cls (eqF c), l) := by
  cases h : ordN c with
  | true =>
    have e : escC c = [c] := by unfold escC; rw [h]; rfl
    have := ordN_true.1 h
    have hm : markR c = false := by
      unfold markR
      simp
      omega
    rw [e]
    show atomR 0 (c :: l) = _
    rw [atom_cons, if_neg (by omega), if_neg (by omega), if_neg (by omega), if_neg (by omega), if_neg (by omega), if_neg (by omega), hm]
    rfl
  | false =>
    have e : escC c = [92, c] := by unfold escC; rw [h]; rfl
    have := ordN_false h
    have hc : classR c = [] := by unfold classR; rw [if_neg (by omega), if_neg (by omega), if_neg (by omega)]
    have hi : inR [(48, 57), (97, 122), (65, 90)] c = false := by
      cases hx : inR [(48, 57), (97, 122), (65, 90)] c
      · rfl
      · unfold inR at hx
        simp at hx
        omega
    have hesc : escR c = some c := by unfold escR; rw [if_neg (by omega), if_neg (by omega), if_neg (by rw [hi]; simp; omega)]
    rw [e]
    show atomR 0 (92 :: c :: l) = _
    rw [atom_cons, if_neg (by omega), if_neg (by omega), if_neg (by omega), if_neg (by omega), if_neg (by omega), if_pos rfl, slash_cons, hc, if_neg (by simp), hesc]
    rfl
theorem seq_esc : ∀ (l : List Nat) (acc : Re) (R : List Nat), Stop3 R → seqR 0 acc (l.flatMap escC ++ R) = seqR 0 (lit eqF acc l) R
  | [], _, _, _ => rfl
  | c :: l, acc, R, hR => by
    have ih := seq_esc l (.seq acc (.cls (eqF c))) R hR
    have hs : ∀ r : Re, signR r (l.flatMap escC ++ R) = (r, l.flatMap escC ++ R) := fun r => by
      cases l with
      | nil =>
        rcases hR with rfl | ⟨d, q, rfl, hd⟩
        · rfl
        · show signR r (d :: q) = _
          rw [sign_cons, if_neg (by omega), if_neg (by omega), if_neg (by omega)]; rfl
      | cons d q =>
        obtain ⟨d', t, e, -, k2, k3, k4⟩ := escC_head d
        rw [List.flatMap_cons, e]
        show signR r (d' :: (t ++ q.flatMap escC ++ R)) = _
        rw [sign_cons, if_neg k2, if_neg k3, if_neg k4]; rfl
    obtain ⟨d', t, e, k1, -⟩ := escC_head c
    have h5 : atomR 0 (d' :: (t ++ (l.flatMap escC ++ R))) = some (.cls (eqF c), l.flatMap escC ++ R) := by
      have := escC_atom c (l.flatMap escC ++ R)
      rw [e] at this
      exact this
    rw [List.flatMap_cons, List.append_assoc, e]
    show seqR 0 acc (d' :: (t ++ (l.flatMap escC ++ R))) = _
    rw [seq_go k1 h5, hs]
    exact ih
theorem parse_esc (l : List Nat) : parseR (l.flatMap escC) = some (lit eqF .eps l) := by
  have h1 := seq_esc l .eps [] (.inl rfl)
  rw [List.append_nil] at h1
  unfold parseR
  rw [alt_step, h1, seq_nil]
  show (barR 0 _ []).bind _ = _
  rw [bar_nil]
  rfl
/-- A part behind its backslash. -/
def escP (p : List UInt8) : List UInt8 := if ordN (p.getD 0 0).toNat then p else 92 :: p
theorem ord_part {l : List UInt8} (hb : ¬ Bad l) (_ : l ≠ []) : ordN ((l.take (wd l)).getD 0 0).toNat = ordN (decodeL l).1 ∧ (ordN (decodeL l).1 = false → (decodeL l).1 < 128) := by
  have e0 : (l.take (wd l)).getD 0 0 = l.getD 0 0 := by
    rw [List.getD_eq_getElem?_getD, List.getD_eq_getElem?_getD, List.getElem?_take, if_pos (show 0 < wd l from wd_pos l)]
  rw [e0]
  unfold Bad at hb
  rw [decodeL_N l] at hb ⊢
  generalize (l.getD 0 0).toNat = a0 at *
  have big : ∀ x : Nat, 126 < x → ordN x = true := fun x h => ordN_true.2 (by omega)
  rcases decodeN_shape l.length a0 (l.getD 1 0).toNat (l.getD 2 0).toNat (l.getD 3 0).toNat with ⟨c, e⟩ | ⟨c1, c2, c3, cv, e⟩ | ⟨c1, c2, c3, c4, cv, cs, e⟩ | ⟨c1, c2, c3, c4, c5, cv, cw, e⟩ | e
  · rw [e]; exact ⟨rfl, fun _ => c⟩
  · rw [e]; dsimp only; rw [big a0 (by omega), big _ (by omega)]; exact ⟨rfl, fun h => by cases h⟩
  · rw [e]; dsimp only; rw [big a0 (by omega), big _ (by omega)]; exact ⟨rfl, fun h => by cases h⟩
  · rw [e]; dsimp only; rw [big a0 (by omega), big _ (by omega)]; exact ⟨rfl, fun h => by cases h⟩
  · rw [e] at hb; exact absurd ⟨rfl, rfl⟩ hb
theorem esc_text : ∀ l : List UInt8, validD l = true → validD ((partsL l).flatMap escP) = true ∧ cpsL ((partsL l).flatMap escP) = (cpsL l).flatMap escC := by
  refine valid_ind ⟨rfl, rfl⟩ ?_
  intro l hne hb hv ih
  obtain ⟨i1, i2⟩ := ih
  obtain ⟨o1, o2⟩ := ord_part hb hne
  rw [parts_cons hne, cps_cons hne, List.flatMap_cons, List.flatMap_cons]
  have f1 : validD (l.take (wd l) ++ (partsL (l.drop (wd l))).flatMap escP) = true := by rw [valid_front hb hne]; exact i1
  have f2 : cpsL (l.take (wd l) ++ (partsL (l.drop (wd l))).flatMap escP) = (decodeL l).1 :: (cpsL (l.drop (wd l))).flatMap escC := by
    rw [cps_cons (front_ne hne), wd_front hb hne, drop_front hne, i2]
    congr 1
    exact congrArg Prod.fst (decode_front hb hne)
  unfold escP
  unfold escC
  cases ho : ordN (decodeL l).1 with
  | true =>
    rw [o1, ho, if_pos rfl, if_pos rfl]
    exact ⟨f1, f2⟩
  | false =>
    rw [o1, ho, if_neg (by decide), if_neg (by decide)]
    have v92 : validD [92] = true := valid_ascii [92] (by decide)
    constructor
    · show validD ([92] ++ (l.take (wd l) ++ (partsL (l.drop (wd l))).flatMap escP)) = true
      rw [valid_append _ v92]
      exact f1
    · show cpsL ([92] ++ (l.take (wd l) ++ (partsL (l.drop (wd l))).flatMap escP)) = _
      have := cps_append v92 (l.take (wd l) ++ (partsL (l.drop (wd l))).flatMap escP)
      rw [this, f2]
      rfl
theorem parts_len : ∀ (l : List UInt8) (p : List UInt8), p ∈ partsL l → 1 ≤ p.length ∧ p.length ≤ 4 := by
  refine parts_ind (fun p hp => by rw [parts_nil] at hp; cases hp) ?_
  intro l h ih p hp
  rw [parts_cons h] at hp
  rcases List.mem_cons.1 hp with rfl | hp
  · have h1 := wd_pos l
    have h2 := wd_4 l
    have h3 := wd_le l h
    rw [List.length_take]
    omega
  · exact ih p hp
theorem esc_len : ∀ ps : List (List UInt8), (∀ p ∈ ps, p.length ≤ 4) → (ps.flatMap escP).length ≤ 5 * ps.length
  | [], _ => Nat.le_refl 0
  | p :: ps, h => by
    have h1 := esc_len ps (fun x hx => h x (List.mem_cons_of_mem _ hx))
    have h2 := h p List.mem_cons_self
    have h3 : (escP p).length ≤ 5 := by
      unfold escP
      split
      · omega
      · rw [List.length_cons]; omega
    rw [List.flatMap_cons, List.length_append, List.length_cons]
    omega
theorem esc_len2 : ∀ ps : List (List UInt8), (ps.flatMap escP).length ≤ ps.flatten.length + ps.length
  | [] => Nat.le_refl 0
  | p :: ps => by
    have h1 := esc_len2 ps
    have h3 : (escP p).length ≤ p.length + 1 := by
      unfold escP
      split
      · omega
      · rw [List.length_cons]; exact Nat.le_refl _
    rw [List.flatMap_cons, List.length_append, List.length_cons, List.flatten_cons, List.length_append]
    omega
theorem part_rune : ∀ l : List UInt8, validD l = true → ∀ p ∈ partsL l, ∃ m, m ≠ [] ∧ ¬ Bad m ∧ p = m.take (wd m) := by
  refine valid_ind (fun p hp => by rw [parts_nil] at hp; cases hp) ?_
  intro l hne hb hv ih p hp
  rw [parts_cons hne] at hp
  rcases List.mem_cons.1 hp with rfl | hp
  · exact ⟨l, hne, hb, rfl⟩
  · exact ih p hp
/-- Equal parts are equal runes. -/
theorem part_iff {l m : List UInt8} (hl : validD l = true) (hm : validD m = true) {i k : Nat} (hi : i < (partsL l).length) (hk : k < (partsL m).length) : (partsL l)[i]? = (partsL m)[k]? ↔ (cpsL l)[i]? = (cpsL m)[k]? := by
  unfold cpsL
  rw [List.getElem?_map, List.getElem?_map, List.getElem?_eq_getElem hi, List.getElem?_eq_getElem hk]
  constructor
  · intro h
    injection h with h
    rw [h]
  · intro h
    obtain ⟨a, a1, a2, a3⟩ := part_rune l hl _ (List.getElem_mem hi)
    obtain ⟨b, b1, b2, b3⟩ := part_rune m hm _ (List.getElem_mem hk)
    rw [a3, b3] at h ⊢
    have h : some (decodeL (a.take (wd a))).1 = some (decodeL (b.take (wd b))).1 := h
    injection h with h
    rw [decode_head a a1, decode_head b b1] at h
    rw [rune_inj a1 a2 b1 b2 h]
/-- So many parts stand there. -/
def sameB (S L : List (List UInt8)) (a m : Nat) : Bool := (List.range m).all fun k => S[a + k]? == L[k]?
theorem sameB_zero (S L : List (List UInt8)) (a : Nat) : sameB S L a 0 = true := rfl
theorem sameB_succ (S L : List (List UInt8)) (a m : Nat) : sameB S L a (m + 1) = (sameB S L a m && (S[a + m]? == L[m]?)) := by
  unfold sameB
  rw [List.range_succ, List.all_append]
  simp
theorem lit_at {s l : List UInt8} (hs : validD s = true) (hl : validD l = true) {i j : Nat} (hi : i ≤ (cpsL s).length) : Mt (cpsL s) (lit eqF .eps (cpsL l)) i j ↔ j = i + (partsL l).length ∧ i + (partsL l).length ≤ (partsL s).length ∧ sameB (partsL s) (partsL l) i (partsL l).length = true := by
  have eL : (cpsL l).length = (partsL l).length := by unfold cpsL; rw [List.length_map]
  have eS : (cpsL s).length = (partsL s).length := by unfold cpsL; rw [List.length_map]
  have hsame : sameB (partsL s) (partsL l) i (partsL l).length = true ↔ ∀ k, k < (partsL l).length → (partsL s)[i + k]? = (partsL l)[k]? := by
    unfold sameB
    rw [List.all_eq_true]
    exact ⟨fun h k hk => by simpa using h k (List.mem_range.2 hk), fun h k hk => by simpa using h k (List.mem_range.1 hk)⟩
  rw [mt_lit, hsame]
  constructor
  · rintro ⟨k, h1, h2, h3⟩
    obtain rfl := mt_eps.1 h1
    have h4 : ∀ m, m < (partsL l).length → (cpsL s)[k + m]? = (cpsL l)[m]? := fun m hm => by
      obtain ⟨x, hx, hf⟩ := h3 m ((cpsL l)[m]'(by omega)) (List.getElem?_eq_getElem (by omega))
      rw [hx, of_decide_eq_true hf, List.getElem?_eq_getElem (by omega)]
    have h5 : k + (partsL l).length ≤ (partsL s).length := by
      rcases Nat.eq_zero_or_pos (partsL l).length with h | h
      · omega
      · have h6 := h4 ((partsL l).length - 1) (by omega)
        rw [List.getElem?_eq_getElem (show (partsL l).length - 1 < (cpsL l).length by omega)] at h6
        have := (List.getElem?_eq_some_iff.1 h6).1
        omega
    exact ⟨by omega, h5, fun m hm => (part_iff hs hl (by omega) hm).2 (h4 m hm)⟩
  · rintro ⟨rfl, h5, h4⟩
    refine ⟨i, .eps i, by omega, fun m c hm => ⟨c, ?_, decide_eq_true rfl⟩⟩
    have hml : m < (partsL l).length := by have := (List.getElem?_eq_some_iff.1 hm).1; omega
    rw [(part_iff hs hl (by omega) hml).1 (h4 m hml), hm]
/-- Where it is found first. -/
theorem found_lit {s l : List UInt8} (hs : validD s = true) (hl : validD l = true) {p q : Int} (h : FoundR (cpsL s) (lit eqF .eps (cpsL l)) p q) {x y : Int}
    (hx : (x = -1 ∧ y = -1 ∧ ∀ k, k + (partsL l).length ≤ (partsL s).length → sameB (partsL s) (partsL l) k (partsL l).length = false) ∨
      ∃ a : Nat, x = (a : Int) ∧ y = ((a + (partsL l).length : Nat) : Int) ∧ a + (partsL l).length ≤ (partsL s).length ∧ sameB (partsL s) (partsL l) a (partsL l).length = true ∧ ∀ k, k < a → sameB (partsL s) (partsL l) k (partsL l).length = false) : p = x ∧ q = y := by
  have eS : (cpsL s).length = (partsL s).length := by unfold cpsL; rw [List.length_map]
  rcases h with ⟨rfl, rfl, h3⟩ | ⟨a, b, rfl, rfl, h3, h4, h5, -⟩
  · rcases hx with ⟨rfl, rfl, -⟩ | ⟨a, rfl, rfl, g1, g2, -⟩
    · exact ⟨rfl, rfl⟩
    · exact absurd ((lit_at hs hl (by omega)).2 ⟨rfl, g1, g2⟩) (h3 a _ (by omega))
  · obtain ⟨rfl, k2, k3⟩ := (lit_at hs hl h3).1 h4
    rcases hx with ⟨rfl, rfl, h0⟩ | ⟨a', rfl, rfl, g1, g2, g3⟩
    · rw [h0 a k2] at k3; cases k3
    · have : a = a' := by
        rcases Nat.lt_trichotomy a a' with hlt | he | hlt
        · rw [g3 a hlt] at k3; cases k3
        · exact he
        · exact absurd ((lit_at hs hl (by omega)).2 ⟨rfl, g1, g2⟩) (h5 a' _ hlt)
      subst this
      exact ⟨rfl, rfl⟩
end Go.Proofs.Ytaaikjedagnjbaa
