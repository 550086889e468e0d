/- Plain: sums, differences, products digit by digit, as on paper. No program in sight. -/
import Derived.Test.YtampgimmodomoaaDoorDDigs
namespace Go.Proofs.YtampgimmodomoaaDoor

theorem val_drop (l : List UInt8) (k : Nat) (h : k < l.length) : val (l.drop k) = ((l[k]).toNat - 48) * 10 ^ (l.length - (k + 1)) + val (l.drop (k + 1)) := by
  rw [List.drop_eq_getElem_cons h, val_cons, List.length_drop]
theorem dig_range {c : UInt8} (h : Dig c) : 48 ≤ c.toNat ∧ c.toNat ≤ 57 := h
/-- Digits from the end on: the sum. -/
def PlusR (x y s : List UInt8) (carry j : Nat) : Prop := j ≤ x.length ∧ s.length = j ∧ Digs s ∧ carry ≤ 1 ∧ val s + 10 ^ j * carry = val (x.drop (x.length - j)) + val (y.drop (x.length - j))
theorem PlusR.start (x y : List UInt8) (hl : x.length = y.length) : PlusR x y [] 0 0 := ⟨Nat.zero_le _, rfl, Digs.nil, by omega, by
  rw [Nat.sub_zero, List.drop_length, hl, List.drop_length]
  rfl⟩
theorem PlusR.next {x y s : List UInt8} {carry j n : Nat} (hx : Digs x) (hy : Digs y) (hl : x.length = y.length) (h : PlusR x y s carry j) (hj : j < x.length)
    (hn : n = (x[x.length - 1 - j].toNat - 48) + ((y[x.length - 1 - j]'(by omega)).toNat - 48) + carry) : PlusR x y (dg n :: s) (n / 10) (j + 1) := by
  obtain ⟨h0, h1, h2, h3, h4⟩ := h
  have dx := dig_range (hx _ (List.getElem_mem (show x.length - 1 - j < x.length by omega)))
  have dy := dig_range (hy _ (List.getElem_mem (show x.length - 1 - j < y.length by omega)))
  refine ⟨by omega, by rw [List.length_cons, h1], fun c hc => ?_, by omega, ?_⟩
  · rcases List.mem_cons.1 hc with rfl | hc
    · exact dg_dig n
    · exact h2 c hc
  · have e : x.length - (j + 1) = x.length - 1 - j := by omega
    have ex := val_drop x (x.length - 1 - j) (by omega)
    have ey := val_drop y (x.length - 1 - j) (by omega)
    have e2 : x.length - 1 - j + 1 = x.length - j := by omega
    have e3 : x.length - (x.length - 1 - j + 1) = j := by omega
    have e4 : y.length - (x.length - 1 - j + 1) = j := by omega
    rw [e3, e2] at ex
    rw [e4, e2] at ey
    rw [e, ex, ey, val_cons, dg_toNat, h1, Nat.pow_succ]
    have hm := Nat.mod_add_div n 10
    have e5 : (48 + n % 10 - 48) * 10 ^ j + 10 ^ j * 10 * (n / 10) = n * 10 ^ j := by
      rw [Nat.add_sub_cancel_left, Nat.mul_comm (n % 10), Nat.mul_assoc, ← Nat.mul_add, hm, Nat.mul_comm]
    have e6 : n * 10 ^ j = (x[x.length - 1 - j].toNat - 48) * 10 ^ j + ((y[x.length - 1 - j]'(by omega)).toNat - 48) * 10 ^ j + 10 ^ j * carry := by
      rw [hn, Nat.add_mul, Nat.add_mul, Nat.mul_comm carry]
    omega
theorem PlusR.done {x y s : List UInt8} {carry : Nat} (h : PlusR x y s carry x.length) : dg carry :: s = digN (x.length + 1) (val x + val y) := by
  obtain ⟨_, h1, h2, h3, h4⟩ := h
  rw [Nat.sub_self] at h4
  simp only [List.drop_zero] at h4
  have hd : Digs (dg carry :: s) := fun c hc => by
    rcases List.mem_cons.1 hc with rfl | hc
    · exact dg_dig _
    · exact h2 c hc
  have hv : val (dg carry :: s) = val x + val y := by
    rw [val_cons, dg_toNat, h1, ← h4]
    have : carry % 10 = carry := by omega
    rw [this, Nat.add_sub_cancel_left, Nat.mul_comm]
    omega
  have := digN_val (x.length + 1) (dg carry :: s) hd (by rw [List.length_cons, h1])
  rw [hv] at this
  exact this.symm
def MinusR (x y s : List UInt8) (borrow j : Nat) : Prop := j ≤ x.length ∧ s.length = j ∧ Digs s ∧ borrow ≤ 1 ∧ val s + val (y.drop (x.length - j)) = val (x.drop (x.length - j)) + 10 ^ j * borrow
theorem MinusR.start (x y : List UInt8) (hl : x.length = y.length) : MinusR x y [] 0 0 := ⟨Nat.zero_le _, rfl, Digs.nil, by omega, by
  rw [Nat.sub_zero, List.drop_length, hl, List.drop_length]
  rfl⟩
theorem MinusR.next {x y s : List UInt8} {borrow j n b2 : Nat} (hx : Digs x) (hy : Digs y) (hl : x.length = y.length) (h : MinusR x y s borrow j) (hj : j < x.length) (hb2 : b2 ≤ 1) (hn9 : n < 10)
    (hn : n + (y[x.length - 1 - j]'(by omega)).toNat + borrow = x[x.length - 1 - j].toNat + 10 * b2) : MinusR x y (dg n :: s) b2 (j + 1) := by
  obtain ⟨h0, h1, h2, h3, h4⟩ := h
  have dx := dig_range (hx _ (List.getElem_mem (show x.length - 1 - j < x.length by omega)))
  have dy := dig_range (hy _ (List.getElem_mem (show x.length - 1 - j < y.length by omega)))
  refine ⟨by omega, by rw [List.length_cons, h1], fun c hc => ?_, hb2, ?_⟩
  · rcases List.mem_cons.1 hc with rfl | hc
    · exact dg_dig n
    · exact h2 c hc
  · have e : x.length - (j + 1) = x.length - 1 - j := by omega
    have ex := val_drop x (x.length - 1 - j) (by omega)
    have ey := val_drop y (x.length - 1 - j) (by omega)
    have e2 : x.length - 1 - j + 1 = x.length - j := by omega
    have e3 : x.length - (x.length - 1 - j + 1) = j := by omega
    have e4 : y.length - (x.length - 1 - j + 1) = j := by omega
    rw [e3, e2] at ex
    rw [e4, e2] at ey
    rw [e, ex, ey, val_cons, dg_toNat, h1, Nat.pow_succ, Nat.mod_eq_of_lt hn9, Nat.add_sub_cancel_left]
    have e5 : n * 10 ^ j + ((y[x.length - 1 - j]'(by omega)).toNat - 48) * 10 ^ j + 10 ^ j * borrow = (x[x.length - 1 - j].toNat - 48) * 10 ^ j + 10 ^ j * 10 * b2 := by
      rw [Nat.mul_comm (10 ^ j) borrow, ← Nat.add_mul, ← Nat.add_mul, Nat.mul_assoc, Nat.mul_comm (10 ^ j) (10 * b2), ← Nat.add_mul]
      congr 1
      omega
    omega
theorem MinusR.done {x y s : List UInt8} {borrow : Nat} (h : MinusR x y s borrow x.length) (hle : val y ≤ val x) : s = digN x.length (val x - val y) := by
  obtain ⟨_, h1, h2, h3, h4⟩ := h
  rw [Nat.sub_self] at h4
  simp only [List.drop_zero] at h4
  have hlt := val_lt s h2
  rw [h1] at hlt
  have hv : val s = val x - val y := by
    rcases (show borrow = 0 ∨ borrow = 1 from by omega) with rfl | rfl <;> omega
  have := digN_val x.length s h2 h1
  rw [hv] at this
  exact this.symm

/-- A row of numbers, each a place of ten. -/
def nval (l : List Nat) : Nat := l.foldl (fun a x => a * 10 + x) 0
theorem foldl_nval (l : List Nat) : ∀ a, l.foldl (fun a x => a * 10 + x) a = a * 10 ^ l.length + nval l := by
  unfold nval
  induction l with
  | nil => intro a; simp
  | cons c l ih =>
    intro a
    simp only [List.foldl_cons, List.length_cons]
    rw [ih (a * 10 + c), ih (0 * 10 + c)]
    simp only [Nat.zero_mul, Nat.zero_add, Nat.add_mul, Nat.pow_succ]
    rw [Nat.mul_assoc, Nat.mul_comm 10]
    omega
theorem nval_append (a b : List Nat) : nval (a ++ b) = nval a * 10 ^ b.length + nval b := by
  show (a ++ b).foldl _ 0 = _
  rw [List.foldl_append, foldl_nval]
  rfl
theorem nval_cons (c : Nat) (l : List Nat) : nval (c :: l) = c * 10 ^ l.length + nval l := by
  have := nval_append [c] l
  rw [List.singleton_append] at this
  rw [this]
  simp [nval]
theorem nval_zeros (n : Nat) : nval (List.replicate n 0) = 0 := by
  induction n with
  | zero => rfl
  | succ n ih => rw [List.replicate_succ, nval_cons, ih]; simp
theorem nval_set (l : List Nat) (i v : Nat) (h : i < l.length) : nval (l.set i (l[i] + v)) = nval l + v * 10 ^ (l.length - 1 - i) := by
  have e1 : l = l.take i ++ (l[i] :: l.drop (i + 1)) := by rw [← List.drop_eq_getElem_cons h, List.take_append_drop]
  have e2 : l.set i (l[i] + v) = l.take i ++ ((l[i] + v) :: l.drop (i + 1)) := by rw [List.set_eq_take_append_cons_drop, if_pos h]
  have f1 : nval l = nval (l.take i) * 10 ^ (l.drop (i + 1)).length.succ + (l[i] * 10 ^ (l.drop (i + 1)).length + nval (l.drop (i + 1))) := by
    conv => lhs; rw [e1]
    rw [nval_append, nval_cons]
    rfl
  have f2 : nval (l.set i (l[i] + v)) = nval (l.take i) * 10 ^ (l.drop (i + 1)).length.succ + ((l[i] + v) * 10 ^ (l.drop (i + 1)).length + nval (l.drop (i + 1))) := by
    rw [e2, nval_append, nval_cons]
    rfl
  have hl : (l.drop (i + 1)).length = l.length - 1 - i := by rw [List.length_drop]; omega
  rw [f1, f2, hl, Nat.add_mul]
  omega
theorem nval_drop (l : List Nat) (k : Nat) (h : k < l.length) : nval (l.drop k) = l[k] * 10 ^ (l.length - (k + 1)) + nval (l.drop (k + 1)) := by
  rw [List.drop_eq_getElem_cons h, nval_cons, List.length_drop]
/-- A product's rows: i digits of the first done, and k of the second in the next one. -/
def MulR (a b : List UInt8) (row : List Nat) (i k : Nat) : Prop :=
  row.length = a.length + b.length ∧ (∀ x ∈ row, x ≤ 81 * (i * b.length + k)) ∧
  nval row = val (a.take i) * val b * 10 ^ (a.length - i) + (if h : i < a.length then (a[i].toNat - 48) * val (b.take k) * 10 ^ (b.length - k) * 10 ^ (a.length - 1 - i) else 0)
theorem val_take_succ (l : List UInt8) (k : Nat) (h : k < l.length) : val (l.take (k + 1)) = val (l.take k) * 10 + (l[k].toNat - 48) := by
  rw [← List.take_append_getElem h, val_snoc]
theorem MulR.start (a b : List UInt8) : MulR a b (List.replicate (a.length + b.length) 0) 0 0 := by
  refine ⟨by simp, fun x hx => by rw [(List.mem_replicate.1 hx).2]; exact Nat.zero_le _, ?_⟩
  rw [nval_zeros]
  simp [val_nil]
theorem MulR.next {a b : List UInt8} {row : List Nat} {i k : Nat} (ha : Digs a) (hb : Digs b) (hi : i < a.length) (hk : k < b.length) (h : MulR a b row i k) (hr : i + k + 1 < row.length) :
    MulR a b (row.set (i + k + 1) (row[i + k + 1] + (a[i].toNat - 48) * (b[k].toNat - 48))) i (k + 1) := by
  obtain ⟨h1, h2, h3⟩ := h
  have da := dig_range (ha _ (List.getElem_mem hi))
  have db := dig_range (hb _ (List.getElem_mem hk))
  refine ⟨by rw [List.length_set]; exact h1, fun x hx => ?_, ?_⟩
  · rcases List.mem_or_eq_of_mem_set hx with hx | rfl
    · have := h2 x hx; omega
    · have h9 := h2 _ (List.getElem_mem hr)
      have : (a[i].toNat - 48) * (b[k].toNat - 48) ≤ 9 * 9 := Nat.mul_le_mul (by omega) (by omega)
      omega
  · rw [nval_set _ _ _ hr, h3, dif_pos hi, dif_pos hi, val_take_succ b k hk, h1]
    have e1 : a.length + b.length - 1 - (i + k + 1) = (b.length - (k + 1)) + (a.length - 1 - i) := by omega
    have e2 : b.length - k = (b.length - (k + 1)) + 1 := by omega
    have p1 : 10 ^ (b.length - (k + 1) + (a.length - 1 - i)) = 10 ^ (b.length - (k + 1)) * 10 ^ (a.length - 1 - i) := Nat.pow_add _ _ _
    have p2 : 10 ^ (b.length - (k + 1) + 1) = 10 ^ (b.length - (k + 1)) * 10 := Nat.pow_succ _ _
    rw [e1, e2, p1, p2]
    clear e1 e2 p1 p2 h1 h2 h3 ha hb hr da db
    generalize 10 ^ (b.length - (k + 1)) = P
    generalize 10 ^ (a.length - 1 - i) = Q
    generalize 10 ^ (a.length - i) = R
    generalize a[i].toNat - 48 = x
    generalize b[k].toNat - 48 = y
    grind
theorem MulR.row {a b : List UInt8} {row : List Nat} {i : Nat} (hi : i < a.length) (h : MulR a b row i b.length) : MulR a b row (i + 1) 0 := by
  obtain ⟨h1, h2, h3⟩ := h
  refine ⟨h1, fun x hx => by have := h2 x hx; rw [Nat.add_mul]; omega, ?_⟩
  rw [h3, dif_pos hi, List.take_length, Nat.sub_self, val_take_succ a i hi]
  have e : a.length - i = (a.length - (i + 1)) + 1 := by omega
  have e2 : a.length - 1 - i = a.length - (i + 1) := by omega
  rw [e, e2, Nat.pow_succ]
  have e3 : (if h : i + 1 < a.length then (a[i + 1].toNat - 48) * val (b.take 0) * 10 ^ (b.length - 0) * 10 ^ (a.length - 1 - (i + 1)) else 0) = 0 := by
    split
    · simp [val_nil]
    · rfl
  rw [e3]
  generalize 10 ^ (a.length - (i + 1)) = P
  grind
theorem MulR.done {a b : List UInt8} {row : List Nat} {k : Nat} (h : MulR a b row a.length k) : row.length = a.length + b.length ∧ nval row = val a * val b := by
  obtain ⟨h1, _, h3⟩ := h
  rw [dif_neg (by omega), List.take_length, Nat.sub_self] at h3
  exact ⟨h1, by simpa using h3⟩
/-- The digits of a product, from the end on. -/
def CarryR (row : List Nat) (s : List UInt8) (carry j : Nat) : Prop := j ≤ row.length ∧ s.length = j ∧ Digs s ∧ val s + 10 ^ j * carry = nval (row.drop (row.length - j))
theorem CarryR.start (row : List Nat) : CarryR row [] 0 0 := ⟨Nat.zero_le _, rfl, Digs.nil, by rw [Nat.sub_zero, List.drop_length]; rfl⟩
theorem CarryR.next {row : List Nat} {s : List UInt8} {carry j n : Nat} (h : CarryR row s carry j) (hj : j < row.length) (hn : n = row[row.length - 1 - j] + carry) : CarryR row (dg n :: s) (n / 10) (j + 1) := by
  obtain ⟨h0, h1, h2, h4⟩ := h
  refine ⟨by omega, by rw [List.length_cons, h1], fun c hc => ?_, ?_⟩
  · rcases List.mem_cons.1 hc with rfl | hc
    · exact dg_dig n
    · exact h2 c hc
  · have e : row.length - (j + 1) = row.length - 1 - j := by omega
    have ex := nval_drop row (row.length - 1 - j) (by omega)
    have e2 : row.length - 1 - j + 1 = row.length - j := by omega
    have e3 : row.length - (row.length - 1 - j + 1) = j := by omega
    rw [e3, e2] at ex
    rw [e, ex, val_cons, dg_toNat, h1, Nat.pow_succ]
    have hm := Nat.mod_add_div n 10
    have e5 : (48 + n % 10 - 48) * 10 ^ j + 10 ^ j * 10 * (n / 10) = n * 10 ^ j := by
      rw [Nat.add_sub_cancel_left, Nat.mul_comm (n % 10), Nat.mul_assoc, ← Nat.mul_add, hm, Nat.mul_comm]
    have e6 : n * 10 ^ j = row[row.length - 1 - j] * 10 ^ j + 10 ^ j * carry := by
      rw [hn, Nat.add_mul, Nat.mul_comm carry]
    omega
theorem CarryR.done {row : List Nat} {s : List UInt8} {carry : Nat} (h : CarryR row s carry row.length) (hlt : nval row < 10 ^ row.length) : Digs s ∧ val s = nval row := by
  obtain ⟨_, h1, h2, h4⟩ := h
  rw [Nat.sub_self, List.drop_zero] at h4
  refine ⟨h2, ?_⟩
  rcases Nat.eq_zero_or_pos carry with rfl | hc
  · omega
  · have : 10 ^ row.length * 1 ≤ 10 ^ row.length * carry := Nat.mul_le_mul_left _ hc
    omega
end Go.Proofs.YtampgimmodomoaaDoor
