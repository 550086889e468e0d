/- Plain: sums, differences and products of limbs, as the loops make them. No program in sight. -/
import Derived.Test.YtgjffkblhhkjmaaDoorDNum
namespace Go.Proofs.YtgjffkblhhkjmaaDoor

def lim (l : List Nat) (i : Nat) : Nat := l.getD i 0
theorem lim_lt {l : List Nat} (h : Lims l) (i : Nat) : lim l i < Bs := by
  unfold lim
  rw [List.getD_eq_getElem?_getD]
  rcases Nat.lt_or_ge i l.length with hi | hi
  · rw [List.getElem?_eq_getElem hi]
    exact h _ (List.getElem_mem hi)
  · rw [List.getElem?_eq_none hi]
    decide
theorem lval_take_succ (l : List Nat) (i : Nat) : lval (l.take (i + 1)) = lval (l.take i) + Bs ^ i * lim l i := by
  unfold lim
  rcases Nat.lt_or_ge i l.length with hi | hi
  · rw [← List.take_append_getElem hi, lval_snoc, List.length_take, Nat.min_eq_left (by omega), List.getD_eq_getElem?_getD, List.getElem?_eq_getElem hi]
    rfl
  · rw [List.take_of_length_le (by omega), List.take_of_length_le (by omega), List.getD_eq_getElem?_getD, List.getElem?_eq_none hi]
    simp
theorem Lims.snoc {l : List Nat} (h : Lims l) {x : Nat} (hx : x < Bs) : Lims (l ++ [x]) := fun y hy => by
  rcases List.mem_append.1 hy with hy | hy
  · exact h y hy
  · rw [List.mem_singleton.1 hy]; exact hx
theorem Lims.nil : Lims [] := fun x h => by cases h
theorem Lims.take {l : List Nat} (h : Lims l) (k : Nat) : Lims (l.take k) := fun x hx => h x (List.mem_of_mem_take hx)
/-- Where a sum stands. -/
def PlusI (n m out : List Nat) (carry i : Nat) : Prop := out.length = i ∧ Lims out ∧ carry ≤ 1 ∧ lval out + Bs ^ i * carry = lval (n.take i) + lval (m.take i)
theorem PlusI.start (n m : List Nat) : PlusI n m [] 0 0 := ⟨rfl, Lims.nil, by omega, by simp [lval]⟩
theorem PlusI.next {n m out : List Nat} {carry i x : Nat} (hn : Lims n) (hm : Lims m) (h : PlusI n m out carry i) (hx : x = lim n i + lim m i + carry) : PlusI n m (out ++ [x % Bs]) (x / Bs) (i + 1) := by
  obtain ⟨h1, h2, h3, h4⟩ := h
  have b1 := lim_lt hn i
  have b2 := lim_lt hm i
  have hB : 0 < Bs := by decide
  refine ⟨by rw [List.length_append, h1]; rfl, h2.snoc (Nat.mod_lt _ hB), ?_, ?_⟩
  · unfold Bs at *
    omega
  · rw [lval_snoc, h1, lval_take_succ, lval_take_succ, Nat.pow_succ]
    have e := Nat.mod_add_div x Bs
    have e2 : Bs ^ i * (x % Bs) + Bs ^ i * Bs * (x / Bs) = Bs ^ i * (lim n i) + Bs ^ i * (lim m i) + Bs ^ i * carry := by
      rw [Nat.mul_assoc, ← Nat.mul_add, e, hx, Nat.mul_add, Nat.mul_add]
    omega
theorem PlusI.done {n m out : List Nat} {carry i : Nat} (h : PlusI n m out carry i) (h1 : n.length ≤ i) (h2 : m.length ≤ i) : Lims (out ++ [carry]) ∧ lval (out ++ [carry]) = lval n + lval m := by
  obtain ⟨a1, a2, a3, a4⟩ := h
  rw [List.take_of_length_le h1, List.take_of_length_le h2] at a4
  refine ⟨a2.snoc (by unfold Bs; omega), ?_⟩
  rw [lval_snoc, a1]
  exact a4
def MinusI (n m out : List Nat) (borrow i : Nat) : Prop := out.length = i ∧ Lims out ∧ borrow ≤ 1 ∧ lval out + lval (m.take i) = lval (n.take i) + Bs ^ i * borrow
theorem MinusI.start (n m : List Nat) : MinusI n m [] 0 0 := ⟨rfl, Lims.nil, by omega, by simp [lval]⟩
theorem MinusI.next {n m out : List Nat} {borrow i x : Nat} (hn : Lims n) (hm : Lims m) (h : MinusI n m out borrow i) (hx : x + lim m i + borrow = lim n i + Bs) : MinusI n m (out ++ [x % Bs]) (1 - x / Bs) (i + 1) := by
  obtain ⟨h1, h2, h3, h4⟩ := h
  have b1 := lim_lt hn i
  have b2 := lim_lt hm i
  have hB : 0 < Bs := by decide
  refine ⟨by rw [List.length_append, h1]; rfl, h2.snoc (Nat.mod_lt _ hB), Nat.sub_le _ _, ?_⟩
  rw [lval_snoc, h1, lval_take_succ, lval_take_succ, Nat.pow_succ]
  have e := Nat.mod_add_div x Bs
  have hq : x / Bs ≤ 1 := by unfold Bs at *; omega
  have e2 : Bs ^ i * (x % Bs) + Bs ^ i * lim m i + Bs ^ i * borrow = Bs ^ i * lim n i + Bs ^ i * Bs * (1 - x / Bs) := by
    rw [Nat.mul_assoc, ← Nat.mul_add, ← Nat.mul_add, ← Nat.mul_add]
    congr 1
    rcases Nat.le_one_iff_eq_zero_or_eq_one.1 hq with hz | hz <;> rw [hz] at e ⊢ <;> omega
  omega
theorem MinusI.done {n m out : List Nat} {borrow i : Nat} (h : MinusI n m out borrow i) (h1 : n.length ≤ i) (h2 : m.length ≤ i) (hle : lval m ≤ lval n) : lval out = lval n - lval m := by
  obtain ⟨a1, a2, a3, a4⟩ := h
  rw [List.take_of_length_le h1, List.take_of_length_le h2] at a4
  have hlt := lval_lt out a2
  rw [a1] at hlt
  rcases (show borrow = 0 ∨ borrow = 1 from by omega) with rfl | rfl <;> omega
/-- A number put in a place. -/
theorem lval_set (l : List Nat) (i v : Nat) (h : i < l.length) : lval (l.set i v) + Bs ^ i * lim l i = lval l + Bs ^ i * v := by
  have e1 : l = l.take i ++ (l[i] :: l.drop (i + 1)) := by rw [← List.drop_eq_getElem_cons h, List.take_append_drop]
  have e2 : l.set i v = l.take i ++ (v :: l.drop (i + 1)) := by rw [List.set_eq_take_append_cons_drop, if_pos h]
  have e3 : lim l i = l[i] := by unfold lim; rw [List.getD_eq_getElem?_getD, List.getElem?_eq_getElem h]; rfl
  have hl : (l.take i).length = i := by rw [List.length_take]; omega
  have f1 : lval l = lval (l.take i) + Bs ^ i * (l[i] + Bs * lval (l.drop (i + 1))) := by
    conv => lhs; rw [e1]
    rw [lval_append, hl]
    rfl
  have f2 : lval (l.set i v) = lval (l.take i) + Bs ^ i * (v + Bs * lval (l.drop (i + 1))) := by
    rw [e2, lval_append, hl]
    rfl
  rw [f1, f2, e3, Nat.mul_add, Nat.mul_add]
  omega
theorem lim_set (l : List Nat) (i j v : Nat) (h : i < l.length) : lim (l.set i v) j = if j = i then v else lim l j := by
  unfold lim
  rw [List.getD_eq_getElem?_getD, List.getElem?_set]
  by_cases e : i = j
  · rw [if_pos e, if_pos (show j = i from e.symm), if_pos h]
    rfl
  · rw [if_neg e, if_neg (fun h => e h.symm), List.getD_eq_getElem?_getD]
theorem Lims.set {l : List Nat} (h : Lims l) {x : Nat} (hx : x < Bs) (i : Nat) : Lims (l.set i x) := fun y hy => by
  rcases List.mem_or_eq_of_mem_set hy with hy | rfl
  · exact h y hy
  · exact hx
/-- Where a product stands, inside a row: out0 is what stood there before the row. -/
def RowI (m out0 out : List Nat) (x i carry k : Nat) : Prop :=
  out.length = out0.length ∧ Lims out ∧ carry < Bs ∧ lval out + Bs ^ (i + k) * carry = lval out0 + Bs ^ i * (x * lval (m.take k)) ∧ (∀ j, i + k ≤ j → lim out j = lim out0 j)
theorem RowI.start {out0 : List Nat} (h : Lims out0) (m : List Nat) (x i : Nat) : RowI m out0 out0 x i 0 0 := ⟨rfl, h, by decide, by simp [lval], fun _ _ => rfl⟩
theorem RowI.next {m out0 out : List Nat} {x i carry k y : Nat} (hm : Lims m) (hx : x < Bs) (h0 : i + k < out0.length) (h : RowI m out0 out x i carry k) (hy : y = lim out (i + k) + x * lim m k + carry) :
    RowI m out0 (out.set (i + k) (y % Bs)) x i (y / Bs) (k + 1) ∧ y < Bs * Bs := by
  obtain ⟨h1, h2, h3, h4, h5⟩ := h
  have b1 := lim_lt hm k
  have b2 := lim_lt h2 (i + k)
  have hB : 0 < Bs := by decide
  have hp : x * lim m k ≤ (Bs - 1) * (Bs - 1) := Nat.mul_le_mul (by omega) (by omega)
  have hyl : y < Bs * Bs := by
    have : (Bs - 1) * (Bs - 1) + 2 * (Bs - 1) < Bs * Bs := by decide
    omega
  refine ⟨⟨by rw [List.length_set]; exact h1, h2.set (Nat.mod_lt _ hB) _, Nat.div_lt_of_lt_mul hyl, ?_, ?_⟩, hyl⟩
  · have e1 := lval_set out (i + k) (y % Bs) (by omega)
    have e2 := Nat.mod_add_div y Bs
    have e3 : Bs ^ (i + k) * (y % Bs) + Bs ^ (i + (k + 1)) * (y / Bs) = Bs ^ (i + k) * lim out (i + k) + Bs ^ (i + k) * (x * lim m k) + Bs ^ (i + k) * carry := by
      rw [← Nat.add_assoc, Nat.pow_succ, Nat.mul_assoc, ← Nat.mul_add, e2, hy, Nat.mul_add, Nat.mul_add]
    have e4 : Bs ^ i * (x * lval (m.take (k + 1))) = Bs ^ i * (x * lval (m.take k)) + Bs ^ (i + k) * (x * lim m k) := by
      rw [lval_take_succ, Nat.pow_add]
      grind
    rw [e4]
    omega
  · intro j hj
    rw [lim_set _ _ _ _ (by omega), if_neg (by omega)]
    exact h5 j (by omega)
/-- Where a product stands, between rows. -/
def TimesI (n m out : List Nat) (i : Nat) : Prop := out.length = n.length + m.length + 1 ∧ Lims out ∧ lval out = lval (n.take i) * lval m ∧ ∀ j, i + m.length ≤ j → lim out j = 0
theorem TimesI.start (n m : List Nat) : TimesI n m (List.replicate (n.length + m.length + 1) 0) 0 :=
  ⟨by simp, fun x hx => by rw [(List.mem_replicate.1 hx).2]; decide, by rw [lval_zeros]; simp [lval], fun j _ => by
    unfold lim
    rw [List.getD_eq_getElem?_getD, List.getElem?_replicate]
    split <;> rfl⟩
theorem TimesI.next {n m out0 out : List Nat} {i carry : Nat} (h : TimesI n m out0 i) (hr : RowI m out0 out (lim n i) i carry (m.length + 1)) (hc : carry = 0) : TimesI n m out (i + 1) := by
  obtain ⟨h1, h2, h3, h4⟩ := h
  obtain ⟨r1, r2, _, r4, r5⟩ := hr
  subst hc
  refine ⟨by rw [r1]; exact h1, r2, ?_, fun j hj => ?_⟩
  · rw [List.take_of_length_le (show m.length ≤ m.length + 1 by omega), Nat.mul_zero, Nat.add_zero] at r4
    rw [r4, h3, lval_take_succ, Nat.add_mul, Nat.mul_assoc]
  · rw [r5 j (by omega)]
    exact h4 j (by omega)
/-- The last carry of a row is none. -/
theorem row_carry {n m out0 out : List Nat} {i x carry y : Nat} (h : TimesI n m out0 i) (hr : RowI m out0 out x i carry m.length) (hy : y = lim out (i + m.length) + x * lim m m.length + carry) : y / Bs = 0 := by
  obtain ⟨_, _, r3, _, r5⟩ := hr
  have e1 : lim out (i + m.length) = 0 := by rw [r5 _ (Nat.le_refl _)]; exact h.2.2.2 _ (Nat.le_refl _)
  have e2 : lim m m.length = 0 := by unfold lim; rw [List.getD_eq_getElem?_getD, List.getElem?_eq_none (Nat.le_refl _)]; rfl
  rw [hy, e1, e2]
  exact Nat.div_eq_of_lt (by omega)
theorem TimesI.done {n m out : List Nat} {i : Nat} (h : TimesI n m out i) (hi : n.length ≤ i) : Lims out ∧ lval out = lval n * lval m := by
  obtain ⟨_, h2, h3, _⟩ := h
  rw [List.take_of_length_le hi] at h3
  exact ⟨h2, h3⟩
/-- Which number is the greater, by their limbs: the loop from the end. -/
theorem lval_cmp {a b : List Nat} (ha : Lims a) (hl : a.length = b.length) (k : Nat) (hk : k < a.length) (hs : ∀ j, k < j → lim a j = lim b j) (hlt : lim a k < lim b k) : lval a < lval b := by
  have key : ∀ (j : Nat), k + 1 + j ≤ a.length → lval (a.take (k + 1 + j)) < lval (b.take (k + 1 + j)) := by
    intro j
    induction j with
    | zero =>
      intro _
      rw [Nat.add_zero, lval_take_succ, lval_take_succ]
      have h1 := lval_lt _ (ha.take k)
      rw [List.length_take, Nat.min_eq_left (by omega)] at h1
      have : Bs ^ k * (lim a k + 1) ≤ Bs ^ k * lim b k := Nat.mul_le_mul_left _ hlt
      rw [Nat.mul_add] at this
      omega
    | succ j ih =>
      intro h
      have := ih (by omega)
      rw [show k + 1 + (j + 1) = (k + 1 + j) + 1 by omega, lval_take_succ, lval_take_succ, hs (k + 1 + j) (by omega)]
      omega
  have := key (a.length - (k + 1)) (by omega)
  rw [show k + 1 + (a.length - (k + 1)) = a.length by omega] at this
  rwa [List.take_length, hl, List.take_length] at this
theorem lim_ext {a b : List Nat} (hl : a.length = b.length) (h : ∀ j, lim a j = lim b j) : a = b := by
  apply List.ext_getElem hl
  intro i h1 h2
  have := h i
  unfold lim at this
  rwa [List.getD_eq_getElem?_getD, List.getD_eq_getElem?_getD, List.getElem?_eq_getElem h1, List.getElem?_eq_getElem h2] at this
/-- What cmp answers. -/
def cmpN (a b : Nat) : Int := if (limbs a).length ≠ (limbs b).length then ((limbs a).length : Int) - (limbs b).length else if a < b then -1 else if b < a then 1 else 0
theorem cmpN_sign (a b : Nat) : (cmpN a b < 0 ↔ a < b) ∧ (0 < cmpN a b ↔ b < a) := by
  unfold cmpN
  by_cases h : (limbs a).length ≠ (limbs b).length
  · rw [if_pos h]
    rcases Nat.lt_or_ge (limbs a).length (limbs b).length with h1 | h1
    · have := limbs_mono h1
      omega
    · have := limbs_mono (a := b) (b := a) (by omega)
      omega
  · rw [if_neg h]
    rcases Nat.lt_trichotomy a b with h1 | h1 | h1
    · rw [if_pos h1]; omega
    · rw [if_neg (by omega), if_neg (by omega)]; omega
    · rw [if_neg (by omega), if_pos h1]; omega
/-- Digits of limbs. -/
theorem digN_limb (l : List Nat) (hl : Lims l) (i k : Nat) (hk : k < 9) : (lval l / 10 ^ (i * 9 + k)) % 10 = (lim l i / 10 ^ k) % 10 := by
  have hB : Bs = 10 ^ 9 := by decide
  have e1 : lval l / 10 ^ (i * 9) = lim l i + Bs * lval (l.drop (i + 1)) ∨ (l.length ≤ i ∧ lval l / 10 ^ (i * 9) = 0) := by
    have hp : 10 ^ (i * 9) = Bs ^ i := by rw [hB, ← Nat.pow_mul, Nat.mul_comm]
    have h1 := lval_lt _ (hl.take i)
    rcases Nat.lt_or_ge i l.length with hi | hi
    · left
      have e : l = l.take i ++ (l[i] :: l.drop (i + 1)) := by rw [← List.drop_eq_getElem_cons hi, List.take_append_drop]
      have hlen : (l.take i).length = i := by rw [List.length_take]; omega
      have e3 : lim l i = l[i] := by unfold lim; rw [List.getD_eq_getElem?_getD, List.getElem?_eq_getElem hi]; rfl
      rw [hlen] at h1
      have f1 : lval l = lval (l.take i) + Bs ^ i * (l[i] + Bs * lval (l.drop (i + 1))) := by
        conv => lhs; rw [e]
        rw [lval_append, hlen]
        rfl
      rw [hp, f1, Nat.add_mul_div_left _ _ (Nat.pow_pos (by decide)), Nat.div_eq_of_lt h1, e3]
      omega
    · right
      rw [List.take_of_length_le hi] at h1
      exact ⟨hi, by rw [hp]; exact Nat.div_eq_of_lt (Nat.lt_of_lt_of_le h1 (Nat.pow_le_pow_right (by decide) hi))⟩
  rw [Nat.pow_add, ← Nat.div_div_eq_div_mul]
  have hdk : Bs = 10 ^ k * (10 * 10 ^ (8 - k)) := by
    rw [hB, ← Nat.mul_assoc, Nat.mul_comm (10 ^ k), Nat.mul_assoc, ← Nat.pow_add]
    rw [show k + (8 - k) = 8 by omega]
  rcases e1 with e1 | ⟨h1, e1⟩
  · rw [e1]
    have : Bs * lval (l.drop (i + 1)) = 10 ^ k * (10 * 10 ^ (8 - k) * lval (l.drop (i + 1))) := by
      rw [← Nat.mul_assoc, ← hdk]
    rw [this, Nat.add_mul_div_left _ _ (Nat.pow_pos (by decide)), Nat.mul_assoc, Nat.add_mul_mod_self_left]
  · rw [e1]
    have : lim l i = 0 := by unfold lim; rw [List.getD_eq_getElem?_getD, List.getElem?_eq_none h1]; rfl
    rw [this]
end Go.Proofs.YtgjffkblhhkjmaaDoor
