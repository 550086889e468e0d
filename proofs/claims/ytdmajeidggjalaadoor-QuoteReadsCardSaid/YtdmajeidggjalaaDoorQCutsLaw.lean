/- Plain: what the statements of layer 3 that have no reference say of texts. -/
import Derived.Test.YtdmajeidggjalaaDoorQParts
import Derived.Test.YtdmajeidggjalaaDoorQBackLaw
namespace Go.Proofs.YtdmajeidggjalaaDoor
open Go Go.Lib

theorem valid_take : ∀ l, validD l = true → ∀ k, validD (l.take (offs l k)) = true ∧ partsL (l.take (offs l k)) = (partsL l).take k := by
  refine valid_ind (fun k => by simp [parts_nil]; rfl) ?_
  intro l hne hb hv ih k
  cases k with
  | zero => simp [offs_zero, parts_nil]; rfl
  | succ k =>
    have e : offs l (k + 1) = wd l + offs (l.drop (wd l)) k := by
      unfold offs
      rw [parts_cons hne, List.take_succ_cons, List.flatten_cons, List.length_append, List.length_take]
      have := wd_le l hne
      rw [Nat.min_eq_left this]
    have e2 : l.take (wd l + offs (l.drop (wd l)) k) = l.take (wd l) ++ (l.drop (wd l)).take (offs (l.drop (wd l)) k) := List.take_add
    obtain ⟨i1, i2⟩ := ih k
    rw [e, e2]
    refine ⟨by rw [valid_front hb hne]; exact i1, ?_⟩
    rw [parts_cons (front_ne hne), wd_front hb hne, drop_front hne, take_app (wd_le l hne), i2, parts_cons hne, List.take_succ_cons]
theorem valid_drop (l : List UInt8) (hv : validD l = true) (k : Nat) : validD (l.drop (offs l k)) = true := by
  have h := valid_append _ (valid_take l hv k).1 (l.drop (offs l k))
  rw [List.take_append_drop, hv] at h
  exact h.symm
/-- The two parts of a text cut at a place. -/
theorem cut_left (l : List UInt8) (at_ : Int) : cutL l 0 at_ = l.take (offs l (fromN (partsL l).length at_)) := by
  unfold cutL
  have e1 : fromN (partsL l).length 0 = 0 := by unfold fromN; simp
  have e2 : toN (partsL l).length 0 at_ = fromN (partsL l).length at_ := by unfold toN fromN; omega
  rw [e1, e2]
  unfold cutN
  rw [offs_zero, List.drop_zero]
theorem cut_right (l : List UInt8) (at_ : Int) : cutL l (max at_ 0) ((partsL l).length : Int) = l.drop (offs l (fromN (partsL l).length at_)) := by
  unfold cutL
  have e1 : fromN (partsL l).length (max at_ 0) = fromN (partsL l).length at_ := by unfold fromN; omega
  have e2 : toN (partsL l).length (max at_ 0) ((partsL l).length : Int) = (partsL l).length := by unfold toN fromN; omega
  rw [e1, e2]
  unfold cutN
  rw [offs_all (Nat.le_refl _), List.take_of_length_le (Nat.le_refl _)]
theorem cut_all (l : List UInt8) : cutL l 0 ((partsL l).length : Int) = l := by
  rw [cut_left]
  have e : fromN (partsL l).length ((partsL l).length : Int) = (partsL l).length := by unfold fromN; omega
  rw [e, offs_all (Nat.le_refl _), List.take_of_length_le (Nat.le_refl _)]
theorem cut_none (l : List UInt8) : cutL l ((partsL l).length : Int) ((partsL l).length + 9 : Int) = [] := by
  unfold cutL cutN
  have e1 : fromN (partsL l).length ((partsL l).length : Int) = (partsL l).length := by unfold fromN; omega
  have e2 : toN (partsL l).length ((partsL l).length : Int) ((partsL l).length + 9 : Int) = (partsL l).length := by unfold toN fromN; omega
  rw [e1, e2]
  apply List.drop_eq_nil_of_le
  rw [List.length_take]
  omega
theorem cut_valid (l : List UInt8) (hv : validD l = true) (at_ : Int) : validD (cutL l 0 at_) = true ∧ validD (cutL l (max at_ 0) ((partsL l).length : Int)) = true ∧
    (partsL (cutL l 0 at_)).length = fromN (partsL l).length at_ ∧ (partsL (cutL l (max at_ 0) ((partsL l).length : Int))).length = (partsL l).length - fromN (partsL l).length at_ := by
  rw [cut_left, cut_right]
  refine ⟨(valid_take l hv _).1, valid_drop l hv _, ?_, ?_⟩
  · rw [(valid_take l hv _).2, List.length_take]
    unfold fromN
    omega
  · rw [← parts_drop, List.length_drop]
/-- Two texts, quoted, one behind the other. -/
theorem quote_join (a b : List UInt8) : quoteL (a ++ b) = (quoteL a).take ((quoteL a).length - 1) ++ (quoteL b).drop 1 := by
  have e1 : (quoteL a).take ((quoteL a).length - 1) = 34 :: body a := by
    rw [length_quoteL]
    show (34 :: (body a ++ [34])).take ((body a).length + 1) = _
    rw [List.take_succ_cons, List.take_left]
  have e2 : (quoteL b).drop 1 = body b ++ [34] := rfl
  rw [e1, e2]
  show 34 :: (body (a ++ b) ++ [34]) = _
  rw [body_append, List.append_assoc]
  rfl
/-- A byte that stands in quotes as it is. -/
def Plain (c : UInt8) : Prop := 32 ≤ c.toNat ∧ c ≠ 34 ∧ c ≠ 92 ∧ c ≠ 127
instance (c : UInt8) : Decidable (Plain c) := inferInstanceAs (Decidable (_ ∧ _))
theorem qb_plain_iff (c : UInt8) : qb c = [c] ↔ Plain c := by
  constructor
  · intro h
    rcases qb_shape c with ⟨_, h1, h2, h3, h4⟩ | ⟨x, h1, _⟩ | ⟨h1, _⟩
    · exact ⟨h3, h1, h2, h4⟩
    · rw [h1] at h; cases h
    · rw [h1] at h; cases h
  · rintro ⟨h1, h2, h3, h4⟩
    unfold qb
    rw [if_neg (fun h => h.elim h2 h3), if_neg (by rintro rfl; revert h1; decide), if_neg (by rintro rfl; revert h1; decide), if_neg (by rintro rfl; revert h1; decide), if_neg (fun h => h.elim (by omega) h4)]
theorem qb_long {c : UInt8} (h : ¬ Plain c) : 2 ≤ (qb c).length := by
  rcases qb_shape c with ⟨h1, _⟩ | ⟨x, h1, _⟩ | ⟨h1, _⟩
  · exact absurd ((qb_plain_iff c).1 h1) h
  · rw [h1]; simp
  · rw [h1]; simp
theorem body_plain : ∀ l : List UInt8, l.length ≤ (body l).length ∧ ((∀ c ∈ l, Plain c) → body l = l) ∧ ((¬ ∀ c ∈ l, Plain c) → l.length < (body l).length)
  | [] => ⟨Nat.le_refl _, fun _ => rfl, fun h => absurd (by simp) h⟩
  | c :: t => by
    obtain ⟨i1, i2, i3⟩ := body_plain t
    have e : body (c :: t) = qb c ++ body t := rfl
    rw [e, List.length_append, List.length_cons]
    by_cases hc : Plain c
    · have hq := (qb_plain_iff c).2 hc
      rw [hq]
      refine ⟨by simp; omega, ?_, ?_⟩
      · intro h
        rw [i2 (fun x hx => h x (by simp [hx]))]
        rfl
      · intro h
        have := i3 (fun h2 => h (by
          intro x hx
          rcases List.mem_cons.1 hx with rfl | hx
          · exact hc
          · exact h2 x hx))
        simp
        omega
    · have hq := qb_long hc
      exact ⟨by omega, fun h => absurd (h c (by simp)) hc, fun _ => by omega⟩
theorem quote_plain (l : List UInt8) : quoteL l = 34 :: (l ++ [34]) ↔ ∀ c ∈ l, Plain c := by
  obtain ⟨_, h2, h3⟩ := body_plain l
  constructor
  · intro h
    by_cases hp : ∀ c ∈ l, Plain c
    · exact hp
    · have := h3 hp
      have h4 := congrArg List.length h
      simp [quoteL] at h4
      omega
  · intro h
    unfold quoteL
    rw [h2 h]
theorem qb_print (c : UInt8) : ∀ x ∈ qb c, 32 ≤ x.toNat ∧ x ≠ 127 := by
  have hx : ∀ n, n < 16 → 32 ≤ (hexB n).toNat ∧ hexB n ≠ 127 := fun n h => ⟨(hexB_low n h).2.1, (hexB_low n h).2.2⟩
  unfold qb
  intro x
  split
  · rename_i h
    intro hm
    rcases h with rfl | rfl <;> (simp at hm; rcases hm with rfl | rfl <;> decide)
  split
  · intro hm; simp at hm; rcases hm with rfl | rfl <;> decide
  split
  · intro hm; simp at hm; rcases hm with rfl | rfl <;> decide
  split
  · intro hm; simp at hm; rcases hm with rfl | rfl <;> decide
  split
  · rename_i h
    intro hm
    have hc : c.toNat < 128 := h.elim (fun h => by omega) (fun h => by rw [h]; decide)
    simp only [List.mem_cons, List.not_mem_nil, or_false] at hm
    rcases hm with rfl | rfl | rfl | rfl | rfl | rfl
    · decide
    · decide
    · decide
    · decide
    · exact hx _ (by omega)
    · exact hx _ (by omega)
  · rename_i h
    intro hm
    simp at hm
    subst hm
    exact ⟨by omega, fun h2 => h (.inr h2)⟩
theorem quote_print (l : List UInt8) : ∀ x ∈ quoteL l, 32 ≤ x.toNat ∧ x ≠ 127 := by
  intro x hx
  unfold quoteL at hx
  rcases List.mem_cons.1 hx with rfl | hx
  · decide
  · rcases List.mem_append.1 hx with hx | hx
    · obtain ⟨c, _, hc⟩ := List.mem_flatMap.1 hx
      exact qb_print c x hc
    · simp at hx
      subst hx
      decide
end Go.Proofs.YtdmajeidggjalaaDoor
