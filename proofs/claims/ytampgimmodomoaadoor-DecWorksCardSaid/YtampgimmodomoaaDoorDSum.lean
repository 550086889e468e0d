/- Plain: what the code of sums, differences, products and the order computes, said of numbers. No program in sight. -/
import Derived.Test.YtampgimmodomoaaDoorDText
import Derived.Test.YtampgimmodomoaaDoorDLimb
namespace Go.Proofs.YtampgimmodomoaaDoor

theorem normZ_pos (n s : Nat) : normZ (n : Int) s = norm false n s := by
  unfold normZ
  rw [decide_eq_false (by omega), Int.natAbs_natCast]
theorem normZ_neg (n s : Nat) : normZ (-(n : Int)) s = norm true n s := by
  unfold normZ
  rcases Nat.eq_zero_or_pos n with rfl | h
  · rfl
  · rw [decide_eq_true (by omega), Int.natAbs_neg, Int.natAbs_natCast]
theorem norm_sign (neg : Bool) (n s : Nat) : norm neg n s = normZ (if neg then -(n : Int) else n) s := by
  cases neg
  · simp only [Bool.false_eq_true, if_false]; exact (normZ_pos n s).symm
  · simp only [if_true]; exact (normZ_neg n s).symm
/-- The numbers of both at the greater scale. -/
def up (d : Dc) (S : Nat) : Nat := d.n * 10 ^ (S - d.s)
theorem z_up (d : Dc) (S : Nat) : d.z * 10 ^ (S - d.s) = if d.neg then -(up d S : Int) else (up d S : Int) := by
  unfold up Dc.z
  cases d.neg <;> simp [Int.neg_mul]
theorem add_scale (a b : Dc) (f : Int → Int → Int) (hf : ∀ x y c, f (x * c) (y * c) = f x y * c) : normZ (f (a.z * 10 ^ b.s) (b.z * 10 ^ a.s)) (a.s + b.s) = normZ (f (a.z * 10 ^ (max a.s b.s - a.s)) (b.z * 10 ^ (max a.s b.s - b.s))) (max a.s b.s) := by
  refine normZ_eq ?_
  rw [← hf, ← hf]
  have e1 : (10 : Int) ^ b.s * 10 ^ max a.s b.s = 10 ^ (max a.s b.s - a.s) * 10 ^ (a.s + b.s) := by
    rw [← Int.pow_add, ← Int.pow_add]; congr 1; omega
  have e2 : (10 : Int) ^ a.s * 10 ^ max a.s b.s = 10 ^ (max a.s b.s - b.s) * 10 ^ (a.s + b.s) := by
    rw [← Int.pow_add, ← Int.pow_add]; congr 1; omega
  rw [Int.mul_assoc, Int.mul_assoc, Int.mul_assoc, Int.mul_assoc, e1, e2]
theorem add_code (a b : Dc) : addD a b = if a.neg = b.neg then norm a.neg (up a (max a.s b.s) + up b (max a.s b.s)) (max a.s b.s) else
    if up b (max a.s b.s) ≤ up a (max a.s b.s) then norm a.neg (up a (max a.s b.s) - up b (max a.s b.s)) (max a.s b.s) else norm b.neg (up b (max a.s b.s) - up a (max a.s b.s)) (max a.s b.s) := by
  have h := add_scale a b (fun x y => x + y) (fun x y c => by rw [Int.add_mul])
  unfold addD
  rw [h, z_up, z_up]
  generalize up a (max a.s b.s) = X
  generalize up b (max a.s b.s) = Y
  cases a.neg <;> cases b.neg
  · simp only [Bool.false_eq_true, if_false, if_true]
    rw [norm_sign]; simp
  · simp only [Bool.false_eq_true, if_false, if_true]
    by_cases hle : Y ≤ X
    · rw [if_pos hle, norm_sign]
      congr 1; simp; omega
    · rw [if_neg hle, norm_sign]
      congr 1; simp; omega
  · simp only [Bool.false_eq_true, reduceCtorEq, if_false, if_true]
    by_cases hle : Y ≤ X
    · rw [if_pos hle, norm_sign]
      congr 1; simp; omega
    · rw [if_neg hle, norm_sign]
      congr 1; simp; omega
  · simp only [if_true]
    rw [norm_sign]
    congr 1; simp; omega
theorem mul_code (a b : Dc) : mulD a b = norm (a.neg != b.neg) (a.n * b.n) (a.s + b.s) := by
  unfold mulD
  rw [norm_sign]
  congr 1
  unfold Dc.z
  cases a.neg <;> cases b.neg <;> simp [Int.neg_mul, Int.mul_neg]
/-- The same below 0, or above. -/
def turn (d : Dc) : Dc := if d.n = 0 then d else ⟨!d.neg, d.n, d.s⟩
theorem z_turn (d : Dc) : (turn d).z = - d.z ∧ (turn d).s = d.s ∧ (turn d).n = d.n := by
  unfold turn Dc.z
  by_cases h : d.n = 0
  · rw [if_pos h, h]; cases d.neg <;> simp
  · rw [if_neg h]; cases d.neg <;> simp
theorem ok_turn {d : Dc} (h : Ok d) : Ok (turn d) := by
  unfold turn
  by_cases h0 : d.n = 0
  · rw [if_pos h0]; exact h
  · rw [if_neg h0]
    exact ⟨h.1, h.2.1, fun h => absurd h h0, h.2.2.2⟩
theorem sub_turn (a b : Dc) : subD a b = addD a (turn b) := by
  obtain ⟨h1, h2, _⟩ := z_turn b
  unfold subD addD
  rw [h1, h2, Int.neg_mul]
  rfl
theorem turn_code {d : Dc} (h : Ok d) : (turn d).neg = (!d.neg && decide (d.n ≠ 0)) := by
  unfold turn
  by_cases h0 : d.n = 0
  · rw [if_pos h0, (h.2.2.1 h0).2, decide_eq_false (fun h => h h0)]; rfl
  · rw [if_neg h0, decide_eq_true h0, Bool.and_true]
/-- The order, as the code computes it. -/
def clamp (x : Int) : Int := min (max x (-1)) 1
theorem clamp_sgn (x : Int) : clamp x = sgn x := by
  unfold clamp
  rcases sgn_cases x with ⟨h, e⟩ | ⟨h, e⟩ | ⟨h, e⟩ <;> rw [e] <;> omega
theorem cmp_code {a b : Dc} (ha : Ok a) (hb : Ok b) : cmpD a b = clamp (if a.neg ≠ b.neg then (if a.neg then -1 else 1) else if a.neg then -(cmpN (up a (max a.s b.s)) (up b (max a.s b.s))) else cmpN (up a (max a.s b.s)) (up b (max a.s b.s))) := by
  rw [clamp_sgn]
  have e1 : (10 : Int) ^ b.s * 10 ^ max a.s b.s = 10 ^ (max a.s b.s - a.s) * 10 ^ (a.s + b.s) := by
    rw [← Int.pow_add, ← Int.pow_add]; congr 1; omega
  have e2 : (10 : Int) ^ a.s * 10 ^ max a.s b.s = 10 ^ (max a.s b.s - b.s) * 10 ^ (a.s + b.s) := by
    rw [← Int.pow_add, ← Int.pow_add]; congr 1; omega
  have h : cmpD a b = sgn (a.z * 10 ^ (max a.s b.s - a.s) - b.z * 10 ^ (max a.s b.s - b.s)) := by
    unfold cmpD
    rw [← sgn_mul (p10 (max a.s b.s)), Int.sub_mul, Int.mul_assoc, Int.mul_assoc, e1, e2, ← Int.mul_assoc, ← Int.mul_assoc, ← Int.sub_mul, sgn_mul (p10 _)]
  rw [h, z_up, z_up]
  have hs := cmpN_sign (up a (max a.s b.s)) (up b (max a.s b.s))
  have ua : up a (max a.s b.s) = 0 → a.neg = false := fun h0 => by
    unfold up at h0
    rcases Nat.mul_eq_zero.1 h0 with h1 | h1
    · exact (ha.2.2.1 h1).2
    · have := n10 (max a.s b.s - a.s); omega
  have ub : up b (max a.s b.s) = 0 → b.neg = false := fun h0 => by
    unfold up at h0
    rcases Nat.mul_eq_zero.1 h0 with h1 | h1
    · exact (hb.2.2.1 h1).2
    · have := n10 (max a.s b.s - b.s); omega
  generalize up a (max a.s b.s) = X at *
  generalize up b (max a.s b.s) = Y at *
  generalize cmpN X Y = C at *
  have sg : ∀ x y : Int, (x < 0 ↔ y < 0) → (0 < x ↔ 0 < y) → sgn x = sgn y := fun x y h1 h2 => by
    rcases sgn_cases x with ⟨a1, a2⟩ | ⟨a1, a2⟩ | ⟨a1, a2⟩ <;> rcases sgn_cases y with ⟨b1, b2⟩ | ⟨b1, b2⟩ | ⟨b1, b2⟩ <;> omega
  cases hna : a.neg <;> cases hnb : b.neg <;> simp only [Bool.false_eq_true, if_false, if_true, ne_eq, not_true_eq_false, not_false_eq_true, reduceCtorEq]
  · exact sg _ _ (by omega) (by omega)
  · have : Y ≠ 0 := fun h0 => by rw [ub h0] at hnb; cases hnb
    exact sg _ _ (by omega) (by omega)
  · have : X ≠ 0 := fun h0 => by rw [ua h0] at hna; cases hna
    exact sg _ _ (by omega) (by omega)
  · exact sg _ _ (by omega) (by omega)
theorem lim_bound {n : Nat} (h : n < 10 ^ 160) : (limbs n).length ≤ 20 := limbs_len (k := 20) (Nat.lt_of_lt_of_le h (by decide))
theorem val_all (n : Nat) : val (digN ((limbs n).length * 9) n) = n := by
  rw [val_digN]
  apply Nat.mod_eq_of_lt
  have h := lval_lt _ (lims_limbs n)
  rw [lval_limbs] at h
  have e : Bs ^ (limbs n).length = 10 ^ ((limbs n).length * 9) := by
    have : Bs = 10 ^ 9 := by decide
    rw [this, ← Nat.pow_mul, Nat.mul_comm]
  rwa [e] at h
theorem up_lt {d : Dc} (h : Ok d) {S : Nat} (hS : S ≤ 60) : up d S < 10 ^ 120 := by
  unfold up
  have h1 : 10 ^ (S - d.s) ≤ 10 ^ 60 := Nat.pow_le_pow_right (by decide) (by omega)
  have h2 : d.n < 10 ^ 60 := h.1
  have e : (10 : Nat) ^ 120 = 10 ^ 60 * 10 ^ 60 := by decide
  rw [e]
  exact Nat.lt_of_le_of_lt (Nat.mul_le_mul_left _ h1) (Nat.mul_lt_mul_of_pos_right h2 (n10 60))
end Go.Proofs.YtampgimmodomoaaDoor
