/- Plain: decimals in their one form, and what is done with them. No program in sight. -/
import Derived.Test.YtgjffkblhhkjmaaDoorDNum
namespace Go.Proofs.YtgjffkblhhkjmaaDoor

/-- A decimal: its sign, the number of its digits, how many stand behind the point. -/
structure Dc where
  neg : Bool
  n : Nat
  s : Nat
/-- Without noughts at the end, behind the point. -/
def redN : Nat → Nat → Nat × Nat
  | n, 0 => (n, 0)
  | n, s + 1 => if n ≠ 0 ∧ n % 10 = 0 then redN (n / 10) s else (n, s + 1)
def topN : Nat := 10 ^ 60
def norm (neg : Bool) (n s : Nat) : Option Dc :=
  if n = 0 then some ⟨false, 0, 0⟩ else if topN ≤ (redN n s).1 ∨ 60 < (redN n s).2 then none else some ⟨neg, (redN n s).1, (redN n s).2⟩
/-- A decimal that may be. -/
def Ok (d : Dc) : Prop := d.n < topN ∧ d.s ≤ 60 ∧ (d.n = 0 → d.s = 0 ∧ d.neg = false) ∧ (d.s = 0 ∨ d.n % 10 ≠ 0)
def Dc.z (d : Dc) : Int := if d.neg then -(d.n : Int) else d.n
/-- The decimal of a whole number and a scale. -/
def normZ (z : Int) (s : Nat) : Option Dc := norm (decide (z < 0)) z.natAbs s
def addD (a b : Dc) : Option Dc := normZ (a.z * 10 ^ b.s + b.z * 10 ^ a.s) (a.s + b.s)
def subD (a b : Dc) : Option Dc := normZ (a.z * 10 ^ b.s - b.z * 10 ^ a.s) (a.s + b.s)
def mulD (a b : Dc) : Option Dc := normZ (a.z * b.z) (a.s + b.s)
def sgn (x : Int) : Int := if x < 0 then -1 else if 0 < x then 1 else 0
def cmpD (a b : Dc) : Int := sgn (a.z * 10 ^ b.s - b.z * 10 ^ a.s)

theorem p10 (k : Nat) : 0 < (10 : Int) ^ k := Int.pow_pos (by decide)
theorem n10 (k : Nat) : 0 < 10 ^ k := Nat.pow_pos (by decide)
theorem redN_ten {n s : Nat} (h : n ≠ 0) : redN (n * 10) (s + 1) = redN n s := by
  show (if n * 10 ≠ 0 ∧ n * 10 % 10 = 0 then redN (n * 10 / 10) s else (n * 10, s + 1)) = _
  rw [if_pos ⟨by omega, by omega⟩, Nat.mul_div_cancel _ (by decide)]
theorem redN_pow {n : Nat} (h : n ≠ 0) (s : Nat) : ∀ k, redN (n * 10 ^ k) (s + k) = redN n s
  | 0 => by simp
  | k + 1 => by
    have e : n * 10 ^ (k + 1) = n * 10 ^ k * 10 := by rw [Nat.pow_succ, Nat.mul_assoc]
    rw [e, ← Nat.add_assoc, redN_ten (Nat.mul_ne_zero h (Nat.pos_iff_ne_zero.1 (n10 k))), redN_pow h s k]
theorem redN_val : ∀ s n, ∃ k, n = (redN n s).1 * 10 ^ k ∧ s = (redN n s).2 + k
  | 0, n => ⟨0, by simp [redN], by simp [redN]⟩
  | s + 1, n => by
    unfold redN
    by_cases h : n ≠ 0 ∧ n % 10 = 0
    · rw [if_pos h]
      obtain ⟨k, h1, h2⟩ := redN_val s (n / 10)
      refine ⟨k + 1, ?_, by omega⟩
      rw [Nat.pow_succ, ← Nat.mul_assoc, ← h1]
      omega
    · rw [if_neg h]
      exact ⟨0, by simp, by simp⟩
theorem redN_end : ∀ s n, (redN n s).2 = 0 ∨ ¬ ((redN n s).1 ≠ 0 ∧ (redN n s).1 % 10 = 0)
  | 0, n => .inl rfl
  | s + 1, n => by
    unfold redN
    by_cases h : n ≠ 0 ∧ n % 10 = 0
    · rw [if_pos h]; exact redN_end s _
    · rw [if_neg h]; exact .inr h
theorem redN_fix {n s : Nat} (h : s = 0 ∨ n % 10 ≠ 0) : redN n s = (n, s) := by
  cases s with
  | zero => rfl
  | succ s =>
    unfold redN
    rw [if_neg (by omega)]
theorem redN_ne {n s : Nat} (h : n ≠ 0) : (redN n s).1 ≠ 0 := by
  obtain ⟨k, h1, _⟩ := redN_val s n
  intro e
  rw [e] at h1
  omega
theorem norm_pow (neg : Bool) (n s k : Nat) : norm neg (n * 10 ^ k) (s + k) = norm neg n s := by
  by_cases h : n = 0
  · subst h; simp [norm]
  · unfold norm
    rw [if_neg (Nat.mul_ne_zero h (Nat.pos_iff_ne_zero.1 (n10 k))), if_neg h, redN_pow h]
theorem normZ_pow (z : Int) (s k : Nat) : normZ (z * 10 ^ k) (s + k) = normZ z s := by
  unfold normZ
  have e : (z * 10 ^ k).natAbs = z.natAbs * 10 ^ k := by
    rw [Int.natAbs_mul, Int.natAbs_pow]
    rfl
  have e2 : decide (z * 10 ^ k < 0) = decide (z < 0) := by
    rw [decide_eq_decide]
    have := p10 k
    constructor
    · intro h
      rcases Int.lt_or_le z 0 with h2 | h2
      · exact h2
      · have := Int.mul_nonneg h2 (Int.le_of_lt this); omega
    · intro h
      exact Int.mul_neg_of_neg_of_pos h this
  rw [e, e2, norm_pow]
/-- The same number, the same decimal. -/
theorem normZ_eq {z y : Int} {s t : Nat} (h : z * 10 ^ t = y * 10 ^ s) : normZ z s = normZ y t := by
  rw [← normZ_pow z s t, ← normZ_pow y t s, h, Nat.add_comm]
theorem z_neg {d : Dc} (h : Ok d) : decide (d.z < 0) = d.neg ∧ d.z.natAbs = d.n := by
  obtain ⟨_, _, h3, _⟩ := h
  unfold Dc.z
  cases hn : d.neg with
  | false => simp
  | true =>
    simp
    rcases Nat.eq_zero_or_pos d.n with h0 | h0
    · have := (h3 h0).2; rw [hn] at this; cases this
    · omega
theorem normZ_self {d : Dc} (h : Ok d) : normZ d.z d.s = some d := by
  obtain ⟨e1, e2⟩ := z_neg h
  unfold normZ
  rw [e1, e2]
  obtain ⟨h1, h2, h3, h4⟩ := h
  unfold norm
  by_cases h0 : d.n = 0
  · rw [if_pos h0]
    obtain ⟨a, b⟩ := h3 h0
    obtain ⟨neg, n, s⟩ := d
    dsimp only at h0 a b
    subst h0 a b
    rfl
  · rw [if_neg h0, redN_fix h4, if_neg (by simp only; omega)]
theorem norm_ok {neg : Bool} {n s : Nat} {d : Dc} (h : norm neg n s = some d) : Ok d ∧ (d.n = 0 ↔ n = 0) ∧ (n ≠ 0 → d.neg = neg) ∧ ∃ k, n = d.n * 10 ^ k ∧ (n ≠ 0 → s = d.s + k) := by
  unfold norm at h
  by_cases h0 : n = 0
  · rw [if_pos h0] at h
    injection h with h
    subst h
    exact ⟨⟨by show 0 < topN; decide, Nat.zero_le _, fun _ => ⟨rfl, rfl⟩, .inl rfl⟩, ⟨fun _ => h0, fun _ => rfl⟩, fun h => absurd h0 h, 0, by simp [h0], fun h => absurd h0 h⟩
  · rw [if_neg h0] at h
    by_cases h1 : topN ≤ (redN n s).1 ∨ 60 < (redN n s).2
    · rw [if_pos h1] at h; cases h
    · rw [if_neg h1] at h
      injection h with h
      subst h
      have hne := redN_ne (s := s) h0
      obtain ⟨k, e1, e2⟩ := redN_val s n
      refine ⟨⟨by dsimp only; omega, by dsimp only; omega, fun h => absurd h hne, ?_⟩, ⟨fun h => absurd h hne, fun h => absurd h h0⟩, fun _ => rfl, k, e1, fun _ => e2⟩
      rcases redN_end s n with h2 | h2
      · exact .inl h2
      · exact .inr (fun h3 => h2 ⟨hne, h3⟩)
theorem normZ_ok {z : Int} {s : Nat} {d : Dc} (h : normZ z s = some d) : Ok d ∧ d.z * 10 ^ s = z * 10 ^ d.s := by
  unfold normZ at h
  obtain ⟨hok, h0, hneg, k, e1, e2⟩ := norm_ok h
  refine ⟨hok, ?_⟩
  by_cases hz : z = 0
  · subst hz
    have : d.n = 0 := h0.2 rfl
    have : d.z = 0 := by unfold Dc.z; rw [this]; split <;> rfl
    rw [this]
    simp
  · have hn0 : z.natAbs ≠ 0 := by omega
    have e3 := e2 hn0
    have e4 := hneg hn0
    have e5 : z = d.z * 10 ^ k := by
      unfold Dc.z
      rw [e4]
      have e6 : (z.natAbs : Int) = (d.n : Int) * 10 ^ k := by rw [e1]; simp
      by_cases hl : z < 0
      · rw [decide_eq_true hl, if_pos rfl, Int.neg_mul, ← e6]
        omega
      · rw [decide_eq_false hl, if_neg (by simp), ← e6]
        omega
    rw [e5, e3, Int.mul_assoc, ← Int.pow_add, Nat.add_comm]
/-- The decimal of which a number is, if one may be. -/
theorem normZ_is {z : Int} {s : Nat} {d : Dc} (hd : Ok d) (h : d.z * 10 ^ s = z * 10 ^ d.s) : normZ z s = some d := by
  rw [normZ_eq (y := d.z) (t := d.s) h.symm, normZ_self hd]
theorem Dc.inj {a b : Dc} (ha : Ok a) (hb : Ok b) (h : a.z * 10 ^ b.s = b.z * 10 ^ a.s) : a = b := by
  have h1 := normZ_self ha
  have h2 := normZ_is (z := a.z) (s := a.s) hb h.symm
  rw [h1] at h2
  injection h2
theorem addD_comm (a b : Dc) : addD a b = addD b a := by
  unfold addD
  rw [Int.add_comm, Nat.add_comm]
theorem mulD_comm (a b : Dc) : mulD a b = mulD b a := by
  unfold mulD
  rw [Int.mul_comm, Nat.add_comm]
theorem addD_ok {a b x : Dc} (h : addD a b = some x) : Ok x ∧ x.z * (10 ^ a.s * 10 ^ b.s) = (a.z * 10 ^ b.s + b.z * 10 ^ a.s) * 10 ^ x.s := by
  obtain ⟨h1, h2⟩ := normZ_ok h
  rw [Int.pow_add] at h2
  exact ⟨h1, h2⟩
theorem mulD_ok {a b x : Dc} (h : mulD a b = some x) : Ok x ∧ x.z * (10 ^ a.s * 10 ^ b.s) = a.z * b.z * 10 ^ x.s := by
  obtain ⟨h1, h2⟩ := normZ_ok h
  rw [Int.pow_add] at h2
  exact ⟨h1, h2⟩
theorem subD_ok {a b x : Dc} (h : subD a b = some x) : Ok x ∧ x.z * (10 ^ a.s * 10 ^ b.s) = (a.z * 10 ^ b.s - b.z * 10 ^ a.s) * 10 ^ x.s := by
  obtain ⟨h1, h2⟩ := normZ_ok h
  rw [Int.pow_add] at h2
  exact ⟨h1, h2⟩
theorem addD_is {a b x : Dc} (hx : Ok x) (h : x.z * (10 ^ a.s * 10 ^ b.s) = (a.z * 10 ^ b.s + b.z * 10 ^ a.s) * 10 ^ x.s) : addD a b = some x := normZ_is hx (by rw [Int.pow_add]; exact h)
theorem subD_is {a b x : Dc} (hx : Ok x) (h : x.z * (10 ^ a.s * 10 ^ b.s) = (a.z * 10 ^ b.s - b.z * 10 ^ a.s) * 10 ^ x.s) : subD a b = some x := normZ_is hx (by rw [Int.pow_add]; exact h)
theorem mulD_is {a b x : Dc} (hx : Ok x) (h : x.z * (10 ^ a.s * 10 ^ b.s) = a.z * b.z * 10 ^ x.s) : mulD a b = some x := normZ_is hx (by rw [Int.pow_add]; exact h)
theorem cancel {a b c : Int} (hc : 0 < c) (h : a * c = b * c) : a = b := Int.eq_of_mul_eq_mul_right (by omega) h
/-- The difference of a sum and the second is the first. -/
theorem sub_add {a b x : Dc} (ha : Ok a) (h : addD a b = some x) : subD x b = some a := by
  obtain ⟨_, h2⟩ := addD_ok h
  refine subD_is ha ?_
  grind
/-- A product with a sum is the sum of products. -/
theorem mul_add {a b c x l m n : Dc} (hx : addD a b = some x) (hl : mulD x c = some l) (hm : mulD a c = some m) (hn : mulD b c = some n) : addD m n = some l := by
  obtain ⟨_, x2⟩ := addD_ok hx
  obtain ⟨l1, l2⟩ := mulD_ok hl
  obtain ⟨_, m2⟩ := mulD_ok hm
  obtain ⟨_, n2⟩ := mulD_ok hn
  refine addD_is l1 ?_
  have pa := p10 a.s; have pb := p10 b.s; have pc := p10 c.s; have px := p10 x.s
  generalize (10 : Int) ^ a.s = A at *
  generalize (10 : Int) ^ b.s = B at *
  generalize (10 : Int) ^ c.s = C at *
  generalize (10 : Int) ^ x.s = X at *
  generalize (10 : Int) ^ l.s = L at *
  generalize (10 : Int) ^ m.s = M at *
  generalize (10 : Int) ^ n.s = N at *
  refine cancel (c := A * C * B * C * X) (Int.mul_pos (Int.mul_pos (Int.mul_pos (Int.mul_pos pa pc) pb) pc) px) ?_
  grind
theorem sgn_cases (x : Int) : (x < 0 ∧ sgn x = -1) ∨ (x = 0 ∧ sgn x = 0) ∨ (0 < x ∧ sgn x = 1) := by
  unfold sgn
  rcases Int.lt_trichotomy x 0 with h | h | h
  · left; exact ⟨h, if_pos h⟩
  · right; left; exact ⟨h, by rw [if_neg (by omega), if_neg (by omega)]⟩
  · right; right; exact ⟨h, by rw [if_neg (by omega), if_pos h]⟩
theorem sgn_neg (x : Int) : sgn (-x) = - sgn x := by
  rcases sgn_cases x with ⟨h, e⟩ | ⟨h, e⟩ | ⟨h, e⟩ <;> rcases sgn_cases (-x) with ⟨h2, e2⟩ | ⟨h2, e2⟩ | ⟨h2, e2⟩ <;> omega
theorem sgn_mul {x c : Int} (hc : 0 < c) : sgn (x * c) = sgn x := by
  rcases sgn_cases x with ⟨h, e⟩ | ⟨h, e⟩ | ⟨h, e⟩
  · rw [e]; exact if_pos (Int.mul_neg_of_neg_of_pos h hc)
  · rw [h, Int.zero_mul]
  · have := Int.mul_pos h hc
    rw [e]; unfold sgn; rw [if_neg (by omega), if_pos this]
theorem cmpD_swap (a b : Dc) : cmpD a b = - cmpD b a := by
  unfold cmpD
  rw [← sgn_neg]
  congr 1
  omega
theorem cmpD_zero {a b : Dc} (ha : Ok a) (hb : Ok b) : cmpD a b = 0 ↔ a = b := by
  unfold cmpD
  constructor
  · intro h
    rcases sgn_cases (a.z * 10 ^ b.s - b.z * 10 ^ a.s) with ⟨_, e⟩ | ⟨h2, _⟩ | ⟨_, e⟩
    · omega
    · exact Dc.inj ha hb (by omega)
    · omega
  · rintro rfl
    rw [Int.sub_self]
    rfl
def zeroD : Dc := ⟨false, 0, 0⟩
theorem ok_zero : Ok zeroD := ⟨by decide, Nat.zero_le _, fun _ => ⟨rfl, rfl⟩, .inl rfl⟩
/-- The order goes with the difference. -/
theorem cmp_sub {a b d : Dc} (h : subD a b = some d) : cmpD d zeroD = cmpD a b := by
  obtain ⟨_, h2⟩ := subD_ok h
  unfold cmpD zeroD
  have e : (⟨false, 0, 0⟩ : Dc).z = 0 := rfl
  rw [e]
  simp only [Int.pow_zero, Int.mul_one, Int.zero_mul, Int.sub_zero]
  have pa := p10 a.s; have pb := p10 b.s; have pd := p10 d.s
  rw [← sgn_mul (x := d.z) (Int.mul_pos pa pb), h2, sgn_mul pd]
theorem cmpD_le_trans {a b c : Dc} (h1 : cmpD a b ≤ 0) (h2 : cmpD b c ≤ 0) : cmpD a c ≤ 0 := by
  unfold cmpD at *
  have pa := p10 a.s; have pb := p10 b.s; have pc := p10 c.s
  have le : ∀ x : Int, sgn x ≤ 0 ↔ x ≤ 0 := fun x => by rcases sgn_cases x with ⟨h, e⟩ | ⟨h, e⟩ | ⟨h, e⟩ <;> omega
  rw [le] at *
  generalize (10 : Int) ^ a.s = A at *
  generalize (10 : Int) ^ b.s = B at *
  generalize (10 : Int) ^ c.s = C at *
  have e1 : (a.z * B - b.z * A) * C ≤ 0 := by
    have := Int.mul_le_mul_of_nonneg_right h1 (Int.le_of_lt pc)
    simpa using this
  have e2 : (b.z * C - c.z * B) * A ≤ 0 := by
    have := Int.mul_le_mul_of_nonneg_right h2 (Int.le_of_lt pa)
    simpa using this
  have e3 : (a.z * C - c.z * A) * B ≤ 0 := by
    have : (a.z * C - c.z * A) * B = (a.z * B - b.z * A) * C + (b.z * C - c.z * B) * A := by grind
    omega
  rcases Int.lt_or_le 0 (a.z * C - c.z * A) with h | h
  · have := Int.mul_pos h pb; omega
  · exact h
/-- What may be refused, and what not. -/
theorem mulD_one {d one : Dc} (hd : Ok d) (h1 : one.z = 1) (h2 : one.s = 0) : mulD d one = some d := by
  refine mulD_is hd ?_
  rw [h1, h2]
  simp
theorem mulD_zero {d zero : Dc} (h1 : zero.z = 0) : mulD d zero = some zeroD := by
  refine mulD_is ok_zero ?_
  have e : zeroD.z = 0 := rfl
  rw [h1, e]
  simp
/-- A tenth of ten times as much. -/
theorem mul_tenth {d ten tenth x : Dc} (hd : Ok d) (h1 : ten.z = 10) (h2 : ten.s = 0) (h3 : tenth.z = 1) (h4 : tenth.s = 1) (h : mulD d ten = some x) : mulD x tenth = some d := by
  obtain ⟨_, e⟩ := mulD_ok h
  refine mulD_is hd ?_
  rw [h1, h2] at e
  rw [h3, h4]
  simp only [Int.pow_zero, Int.mul_one, Int.pow_one] at *
  grind
theorem tenth_mul {d ten tenth x : Dc} (hd : Ok d) (h1 : ten.z = 10) (h2 : ten.s = 0) (h3 : tenth.z = 1) (h4 : tenth.s = 1) (h : mulD d tenth = some x) : mulD x ten = some d ∧ cmpD x zeroD = cmpD d zeroD := by
  obtain ⟨_, e⟩ := mulD_ok h
  rw [h3, h4] at e
  simp only [Int.pow_one, Int.mul_one] at e
  refine ⟨?_, ?_⟩
  · refine mulD_is hd ?_
    rw [h1, h2]
    simp only [Int.pow_zero, Int.mul_one] at *
    grind
  · unfold cmpD
    have e0 : zeroD.z = 0 := rfl
    have e1 : zeroD.s = 0 := rfl
    rw [e0, e1]
    simp only [Int.pow_zero, Int.mul_one, Int.zero_mul, Int.sub_zero]
    have pd := p10 d.s; have px := p10 x.s
    rw [← sgn_mul (x := x.z) (Int.mul_pos pd (show (0 : Int) < 10 by decide)), e, sgn_mul px]
end Go.Proofs.YtgjffkblhhkjmaaDoor
