/- Plain: texts as lists of bytes: the rune at the head, the parts of a text, valid texts. No program in sight. -/
import Derived.WalkKit
import Derived.Lib.ValidLaws
import Derived.Lib.MapLaws
import Derived.Lib.RuneCount
namespace Go.Proofs.Ytaaikjedagnjbaa
open Go Go.Lib

/-- No rune stands at the head. -/
def Bad (l : List UInt8) : Prop := (decodeL l).1 = 65533 ∧ (decodeL l).2 = 1
instance (l : List UInt8) : Decidable (Bad l) := inferInstanceAs (Decidable (_ ∧ _))
/-- How many bytes stand at the head, a rune or a byte that is none. -/
def wd (l : List UInt8) : Nat := (decodeL l).2
theorem wd_pos (l : List UInt8) : 1 ≤ wd l := decodeL_width l
theorem wd_le (l : List UInt8) (h : l ≠ []) : wd l ≤ l.length := decodeL_le l h
theorem wd_4 (l : List UInt8) : wd l ≤ 4 := by
  unfold wd
  rw [decodeL_N]
  rcases decodeN_shape l.length (l.getD 0 0).toNat (l.getD 1 0).toNat (l.getD 2 0).toNat (l.getD 3 0).toNat with ⟨c, e⟩ | ⟨c1, c2, c3, cv, e⟩ | ⟨c1, c2, c3, c4, cv, cs, e⟩ | ⟨c1, c2, c3, c4, c5, cv, cw, e⟩ | e
  all_goals (rw [e]; dsimp only; omega)
theorem decodeN_mk2 {n b0 b1 b2 b3 : Nat} (h0 : b0 / 32 = 6) (h1 : 1 < n) (h2 : b1 / 64 = 2) (h3 : 128 ≤ b0 % 32 * 64 + b1 % 64) : decodeN n b0 b1 b2 b3 = (b0 % 32 * 64 + b1 % 64, 2) := by
  unfold decodeN
  rw [if_neg (by omega), if_pos ⟨h0, h1, h2⟩, if_pos h3]
theorem decodeN_mk3 {n b0 b1 b2 b3 : Nat} (h0 : b0 / 16 = 14) (h1 : 2 < n) (h2 : b1 / 64 = 2) (h3 : b2 / 64 = 2) (h4 : 2048 ≤ b0 % 16 * 4096 + b1 % 64 * 64 + b2 % 64)
    (h5 : b0 % 16 * 4096 + b1 % 64 * 64 + b2 % 64 < 55296 ∨ 57344 ≤ b0 % 16 * 4096 + b1 % 64 * 64 + b2 % 64) : decodeN n b0 b1 b2 b3 = (b0 % 16 * 4096 + b1 % 64 * 64 + b2 % 64, 3) := by
  unfold decodeN
  rw [if_neg (by omega), if_neg (by omega), if_pos (by omega), if_pos (by omega)]
theorem decodeN_mk4 {n b0 b1 b2 b3 : Nat} (h0 : b0 / 8 = 30) (h1 : 3 < n) (h2 : b1 / 64 = 2) (h3 : b2 / 64 = 2) (h4 : b3 / 64 = 2) (h5 : 65536 ≤ b0 % 8 * 262144 + b1 % 64 * 4096 + b2 % 64 * 64 + b3 % 64)
    (h6 : b0 % 8 * 262144 + b1 % 64 * 4096 + b2 % 64 * 64 + b3 % 64 ≤ 1114111) : decodeN n b0 b1 b2 b3 = (b0 % 8 * 262144 + b1 % 64 * 4096 + b2 % 64 * 64 + b3 % 64, 4) := by
  unfold decodeN
  rw [if_neg (by omega), if_neg (by omega), if_neg (by omega), if_pos (by omega), if_pos (by omega)]
theorem decodeN_mk1 {n b0 b1 b2 b3 : Nat} (h0 : b0 < 128) : decodeN n b0 b1 b2 b3 = (b0, 1) := by
  unfold decodeN
  rw [if_pos h0]
theorem getD_take_eq {l m : List UInt8} {n j : Nat} (h : m.take n = l.take n) (hj : j < n) : m.getD j 0 = l.getD j 0 := by
  have := congrArg (fun x => x.getD j 0) h
  simp only [List.getD_eq_getElem?_getD, List.getElem?_take, if_pos hj] at this
  simpa [List.getD_eq_getElem?_getD] using this
/-- The first bytes alone decide which rune stands at the head. -/
theorem decode_prefix {l m : List UInt8} (hb : ¬ Bad l) (hm : m.take (wd l) = l.take (wd l)) (hl : wd l ≤ m.length) : decodeL m = decodeL l := by
  unfold Bad at hb
  unfold wd at hm hl
  rw [decodeL_N l] at hb hm hl ⊢
  rw [decodeL_N m]
  rcases decodeN_shape l.length (l.getD 0 0).toNat (l.getD 1 0).toNat (l.getD 2 0).toNat (l.getD 3 0).toNat with ⟨c, e⟩ | ⟨c1, c2, c3, cv, e⟩ | ⟨c1, c2, c3, c4, cv, cs, e⟩ | ⟨c1, c2, c3, c4, c5, cv, cw, e⟩ | e
  · rw [e] at hm hl ⊢
    rw [getD_take_eq hm (j := 0) (by omega)]
    exact decodeN_mk1 c
  · rw [e] at hm hl ⊢
    rw [getD_take_eq hm (j := 0) (by omega), getD_take_eq hm (j := 1) (by omega)]
    exact decodeN_mk2 c1 hl c3 cv
  · rw [e] at hm hl ⊢
    rw [getD_take_eq hm (j := 0) (by omega), getD_take_eq hm (j := 1) (by omega), getD_take_eq hm (j := 2) (by omega)]
    exact decodeN_mk3 c1 hl c3 c4 cv cs
  · rw [e] at hm hl ⊢
    rw [getD_take_eq hm (j := 0) (by omega), getD_take_eq hm (j := 1) (by omega), getD_take_eq hm (j := 2) (by omega), getD_take_eq hm (j := 3) (by omega)]
    exact decodeN_mk4 c1 hl c3 c4 c5 cv cw
  · rw [e] at hb
    exact absurd ⟨rfl, rfl⟩ hb
/-- A rune of several bytes has none below 128. -/
theorem high_bytes {l : List UInt8} (h2 : 2 ≤ wd l) : ∀ b ∈ l.take (wd l), 128 ≤ b.toNat := by
  unfold wd at h2 ⊢
  rw [decodeL_N l] at h2 ⊢
  intro b hb
  rcases decodeN_shape l.length (l.getD 0 0).toNat (l.getD 1 0).toNat (l.getD 2 0).toNat (l.getD 3 0).toNat with ⟨c, e⟩ | ⟨c1, c2, c3, cv, e⟩ | ⟨c1, c2, c3, c4, cv, cs, e⟩ | ⟨c1, c2, c3, c4, c5, cv, cw, e⟩ | e
  · rw [e] at h2; dsimp only at h2; omega
  · rw [e] at hb
    dsimp only at hb
    rw [takeB l c2] at hb
    simp only [List.mem_cons, List.not_mem_nil, or_false] at hb
    rcases hb with rfl | rfl <;> omega
  · rw [e] at hb
    dsimp only at hb
    rw [takeC l c2] at hb
    simp only [List.mem_cons, List.not_mem_nil, or_false] at hb
    rcases hb with rfl | rfl | rfl <;> omega
  · rw [e] at hb
    dsimp only at hb
    rw [takeD l c2] at hb
    simp only [List.mem_cons, List.not_mem_nil, or_false] at hb
    rcases hb with rfl | rfl | rfl | rfl <;> omega
  · rw [e] at h2; dsimp only at h2; omega
/-- A rune of one byte is it, below 128. -/
theorem low_byte {l : List UInt8} (hb : ¬ Bad l) (h1 : wd l = 1) (hne : l ≠ []) : ∃ c t, l = c :: t ∧ c.toNat < 128 ∧ decodeL l = (c.toNat, 1) := by
  unfold Bad at hb
  unfold wd at h1
  rw [decodeL_N l] at hb h1 ⊢
  obtain ⟨c, t, rfl⟩ := List.exists_cons_of_ne_nil hne
  refine ⟨c, t, rfl, ?_⟩
  rcases decodeN_shape (c :: t).length ((c :: t).getD 0 0).toNat ((c :: t).getD 1 0).toNat ((c :: t).getD 2 0).toNat ((c :: t).getD 3 0).toNat with ⟨c, e⟩ | ⟨c1, c2, c3, cv, e⟩ | ⟨c1, c2, c3, c4, cv, cs, e⟩ | ⟨c1, c2, c3, c4, c5, cv, cw, e⟩ | e
  · exact ⟨c, e⟩
  · rw [e] at h1; dsimp only at h1; omega
  · rw [e] at h1; dsimp only at h1; omega
  · rw [e] at h1; dsimp only at h1; omega
  · rw [e] at hb
    exact absurd ⟨rfl, rfl⟩ hb
/-- A rune that is cut is none. -/
theorem cut_bad {l : List UInt8} {j : Nat} (h0 : 0 < j) (hj : j < wd l) : Bad (l.take j) := by
  unfold wd at hj
  rw [decodeL_N l] at hj
  unfold Bad
  rw [decodeL_N (l.take j)]
  have hg : ∀ i, i < j → (l.take j).getD i 0 = l.getD i 0 := fun i hi => by
    simp only [List.getD_eq_getElem?_getD, List.getElem?_take, if_pos hi]
  have hlen : (l.take j).length ≤ j := by rw [List.length_take]; omega
  rw [hg 0 h0]
  suffices h : decodeN (l.take j).length (l.getD 0 0).toNat ((l.take j).getD 1 0).toNat ((l.take j).getD 2 0).toNat ((l.take j).getD 3 0).toNat = (65533, 1) by rw [h]; exact ⟨rfl, rfl⟩
  rcases decodeN_shape l.length (l.getD 0 0).toNat (l.getD 1 0).toNat (l.getD 2 0).toNat (l.getD 3 0).toNat with ⟨c, e⟩ | ⟨c1, c2, c3, cv, e⟩ | ⟨c1, c2, c3, c4, cv, cs, e⟩ | ⟨c1, c2, c3, c4, c5, cv, cw, e⟩ | e
  all_goals (rw [e] at hj; dsimp only at hj)
  · omega
  · unfold decodeN
    rw [if_neg (by omega), if_neg (by omega), if_neg (by omega), if_neg (by omega)]
  · unfold decodeN
    rw [if_neg (by omega), if_neg (by omega), if_neg (by omega), if_neg (by omega)]
  · unfold decodeN
    rw [if_neg (by omega), if_neg (by omega), if_neg (by omega), if_neg (by omega)]
  · omega
theorem valid_yes {l : List UInt8} (hb : ¬ Bad l) (hne : l ≠ []) : validD l = validD (l.drop (wd l)) := by
  rw [validD_step l hne, if_neg (show ¬ ((decodeL l).1 = 65533 ∧ (decodeL l).2 = 1) from hb)]
  rfl
theorem valid_no {l : List UInt8} (hb : Bad l) (hne : l ≠ []) : validD l = false := by
  rw [validD_step l hne, if_pos (show (decodeL l).1 = 65533 ∧ (decodeL l).2 = 1 from hb)]
/-- Valid texts, rune by rune. -/
theorem valid_ind {P : List UInt8 → Prop} (h0 : P []) (h1 : ∀ l, l ≠ [] → ¬ Bad l → validD (l.drop (wd l)) = true → P (l.drop (wd l)) → P l) : ∀ l, validD l = true → P l := by
  have key : ∀ (n : Nat) (l : List UInt8), l.length ≤ n → validD l = true → P l := by
    intro n
    induction n with
    | zero =>
      intro l hl _
      have : l = [] := List.eq_nil_of_length_eq_zero (by omega)
      rw [this]
      exact h0
    | succ n ih =>
      intro l hl hv
      by_cases hne : l = []
      · rw [hne]; exact h0
      · by_cases hb : Bad l
        · rw [valid_no hb hne] at hv; cases hv
        · rw [valid_yes hb hne] at hv
          exact h1 l hne hb hv (ih _ (by have := wd_pos l; have := List.length_pos_iff.2 hne; rw [List.length_drop]; unfold wd at *; omega) hv)
  exact fun l hv => key l.length l (Nat.le_refl _) hv
theorem take_app {l m : List UInt8} {n : Nat} (h : n ≤ l.length) : (l.take n ++ m).take n = l.take n := by
  rw [List.take_append_of_le_length (by rw [List.length_take]; omega), List.take_take, Nat.min_self]
/-- A rune in front of whatever. -/
theorem decode_front {l m : List UInt8} (hb : ¬ Bad l) (hne : l ≠ []) : decodeL (l.take (wd l) ++ m) = decodeL l :=
  decode_prefix hb (take_app (wd_le l hne)) (by rw [List.length_append, List.length_take]; have := wd_le l hne; omega)
theorem bad_front {l m : List UInt8} (hb : ¬ Bad l) (hne : l ≠ []) : ¬ Bad (l.take (wd l) ++ m) := by
  unfold Bad
  rw [decode_front hb hne]
  exact hb
theorem wd_front {l m : List UInt8} (hb : ¬ Bad l) (hne : l ≠ []) : wd (l.take (wd l) ++ m) = wd l := by
  have := congrArg Prod.snd (decode_front (m := m) hb hne)
  exact this
theorem front_ne {l m : List UInt8} (hne : l ≠ []) : l.take (wd l) ++ m ≠ [] := by
  intro h
  have := congrArg List.length h
  rw [List.length_append, List.length_take, List.length_nil] at this
  have := wd_pos l
  have := List.length_pos_iff.2 hne
  omega
theorem drop_front {l m : List UInt8} (hne : l ≠ []) : (l.take (wd l) ++ m).drop (wd l) = m := by
  rw [List.drop_append_of_le_length (by rw [List.length_take]; have := wd_le l hne; omega), List.drop_eq_nil_of_le (by rw [List.length_take]; omega), List.nil_append]
theorem valid_front {l m : List UInt8} (hb : ¬ Bad l) (hne : l ≠ []) : validD (l.take (wd l) ++ m) = validD m := by
  rw [valid_yes (bad_front hb hne) (front_ne hne), wd_front hb hne, drop_front hne]
theorem valid_append : ∀ a, validD a = true → ∀ b, validD (a ++ b) = validD b := by
  refine valid_ind (fun b => rfl) ?_
  intro l hne hb hv ih b
  have e : l ++ b = l.take (wd l) ++ (l.drop (wd l) ++ b) := by rw [← List.append_assoc, List.take_append_drop]
  rw [e, valid_front hb hne, ih b]
end Go.Proofs.Ytaaikjedagnjbaa
