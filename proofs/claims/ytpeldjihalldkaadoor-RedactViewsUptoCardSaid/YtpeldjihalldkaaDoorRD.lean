/- Laws for the walk: cuts of slices, without parting the walk at the capacity's end. Over any program. (A text that imports this one sees 's[k:]' as cutA.) -/
import Derived.Test.YtpeldjihalldkaaDoorRB
import Derived.Test.YtpeldjihalldkaaDoorRA
import Derived.Test.YtpeldjihalldkaaDoorChecked
import Derived.Deep.Cut
import Derived.Lib.ConvBytes
import Derived.Test.YtpeldjihalldkaaDoorShelf
import Derived.Deep.RegionHeld3
import Derived.Test.YtpeldjihalldkaaDoorRC
namespace Go.Proofs.YtpeldjihalldkaaDoor
open Go Go.RowKit

/-- Where a cut begins: at the capacity's end the old address stands. -/
def cutA (a : Option Addr) (l m s : Nat) : Option Addr := if m = l then a else a.map (·.add (l * s))
@[go_sem high] theorem cutA_zero (a : Option Addr) (m s : Nat) : cutA a 0 m s = a := by
  unfold cutA
  split
  · rfl
  · cases a <;> simp [Addr.add]
@[go_sem ↓ high] theorem sliced_cut (a : Option Addr) (l h m s : Nat) : sliced a l h m s = .slice (cutA a l m s) (h - l) (m - l) := rfl
theorem Span.cut {w : World} {A : Option Addr} {xs : List Value} (h : Span w A xs) (k : Nat) {cap : Nat} (hc : xs.length ≤ cap) : Span w (cutA A k cap 1) (xs.drop k) := by
  have := h.drop (k := k) hc
  unfold cutA
  simpa using this
theorem Span.cut2 {w : World} {A : Option Addr} {xs : List Value} (h : Span w A xs) (k m : Nat) {cap : Nat} (hc : xs.length ≤ cap) : Span w (cutA A k cap 1) ((xs.drop k).take m) := (h.cut k hc).take m
theorem Span.cut8 {w : World} {A : Option Addr} {l : List UInt8} (h : Span w A (u8s l)) (k : Nat) {cap : Nat} (hc : l.length ≤ cap) : Span w (cutA A k cap 1) (u8s (l.drop k)) := by
  rw [u8s_drop]
  exact h.cut k (by rw [length_u8s]; exact hc)
theorem Span.cut28 {w : World} {A : Option Addr} {l : List UInt8} (h : Span w A (u8s l)) (k m : Nat) {cap : Nat} (hc : l.length ≤ cap) : Span w (cutA A k cap 1) (u8s ((l.drop k).take m)) := by
  rw [u8s_take]
  exact (h.cut8 k hc).take m
theorem Span.take8 {w : World} {A : Option Addr} {l : List UInt8} (h : Span w A (u8s l)) (m : Nat) : Span w A (u8s (l.take m)) := by
  rw [u8s_take]
  exact h.take m
end Go.Proofs.YtpeldjihalldkaaDoor

/- Plain: sums, differences and products of limbs, as the loops make them. No program in sight. -/
namespace Go.Proofs.YtpeldjihalldkaaDoor

def lim (l : List Nat) (i : Nat) : Nat := l.getD i 0
theorem lim_lt {l : List Nat} (h : Lims l) (i : Nat) : lim l i < Bs := by
  unfold lim
  rw [List.getD_eq_getElem?_getD]
  rcases Nat.lt_or_ge i l.length with hi | hi
  · rw [List.getElem?_eq_getElem hi]
    exact h _ (List.getElem_mem hi)
  · rw [List.getElem?_eq_none hi]
    decide
theorem lval_take_succ (l : List Nat) (i : Nat) : lval (l.take (i + 1)) = lval (l.take i) + Bs ^ i * lim l i := by
  unfold lim
  rcases Nat.lt_or_ge i l.length with hi | hi
  · rw [← List.take_append_getElem hi, lval_snoc, List.length_take, Nat.min_eq_left (by omega), List.getD_eq_getElem?_getD, List.getElem?_eq_getElem hi]
    rfl
  · rw [List.take_of_length_le (by omega), List.take_of_length_le (by omega), List.getD_eq_getElem?_getD, List.getElem?_eq_none hi]
    simp
theorem Lims.snoc {l : List Nat} (h : Lims l) {x : Nat} (hx : x < Bs) : Lims (l ++ [x]) := fun y hy => by
  rcases List.mem_append.1 hy with hy | hy
  · exact h y hy
  · rw [List.mem_singleton.1 hy]; exact hx
theorem Lims.nil : Lims [] := fun x h => by cases h
theorem Lims.take {l : List Nat} (h : Lims l) (k : Nat) : Lims (l.take k) := fun x hx => h x (List.mem_of_mem_take hx)
/-- Where a sum stands. -/
def PlusI (n m out : List Nat) (carry i : Nat) : Prop := out.length = i ∧ Lims out ∧ carry ≤ 1 ∧ lval out + Bs ^ i * carry = lval (n.take i) + lval (m.take i)
theorem PlusI.start (n m : List Nat) : PlusI n m [] 0 0 := ⟨rfl, Lims.nil, by omega, by simp [lval]⟩
theorem PlusI.next {n m out : List Nat} {carry i x : Nat} (hn : Lims n) (hm : Lims m) (h : PlusI n m out carry i) (hx : x = lim n i + lim m i + carry) : PlusI n m (out ++ [x % Bs]) (x / Bs) (i + 1) := by
  obtain ⟨h1, h2, h3, h4⟩ := h
  have b1 := lim_lt hn i
  have b2 := lim_lt hm i
  have hB : 0 < Bs := by decide
  refine ⟨by rw [List.length_append, h1]; rfl, h2.snoc (Nat.mod_lt _ hB), ?_, ?_⟩
  · unfold Bs at *
    omega
  · rw [lval_snoc, h1, lval_take_succ, lval_take_succ, Nat.pow_succ]
    have e := Nat.mod_add_div x Bs
    have e2 : Bs ^ i * (x % Bs) + Bs ^ i * Bs * (x / Bs) = Bs ^ i * (lim n i) + Bs ^ i * (lim m i) + Bs ^ i * carry := by
      rw [Nat.mul_assoc, ← Nat.mul_add, e, hx, Nat.mul_add, Nat.mul_add]
    omega
theorem PlusI.done {n m out : List Nat} {carry i : Nat} (h : PlusI n m out carry i) (h1 : n.length ≤ i) (h2 : m.length ≤ i) : Lims (out ++ [carry]) ∧ lval (out ++ [carry]) = lval n + lval m := by
  obtain ⟨a1, a2, a3, a4⟩ := h
  rw [List.take_of_length_le h1, List.take_of_length_le h2] at a4
  refine ⟨a2.snoc (by unfold Bs; omega), ?_⟩
  rw [lval_snoc, a1]
  exact a4
def MinusI (n m out : List Nat) (borrow i : Nat) : Prop := out.length = i ∧ Lims out ∧ borrow ≤ 1 ∧ lval out + lval (m.take i) = lval (n.take i) + Bs ^ i * borrow
theorem MinusI.start (n m : List Nat) : MinusI n m [] 0 0 := ⟨rfl, Lims.nil, by omega, by simp [lval]⟩
theorem MinusI.next {n m out : List Nat} {borrow i x : Nat} (hn : Lims n) (hm : Lims m) (h : MinusI n m out borrow i) (hx : x + lim m i + borrow = lim n i + Bs) : MinusI n m (out ++ [x % Bs]) (1 - x / Bs) (i + 1) := by
  obtain ⟨h1, h2, h3, h4⟩ := h
  have b1 := lim_lt hn i
  have b2 := lim_lt hm i
  have hB : 0 < Bs := by decide
  refine ⟨by rw [List.length_append, h1]; rfl, h2.snoc (Nat.mod_lt _ hB), Nat.sub_le _ _, ?_⟩
  rw [lval_snoc, h1, lval_take_succ, lval_take_succ, Nat.pow_succ]
  have e := Nat.mod_add_div x Bs
  have hq : x / Bs ≤ 1 := by unfold Bs at *; omega
  have e2 : Bs ^ i * (x % Bs) + Bs ^ i * lim m i + Bs ^ i * borrow = Bs ^ i * lim n i + Bs ^ i * Bs * (1 - x / Bs) := by
    rw [Nat.mul_assoc, ← Nat.mul_add, ← Nat.mul_add, ← Nat.mul_add]
    congr 1
    rcases Nat.le_one_iff_eq_zero_or_eq_one.1 hq with hz | hz <;> rw [hz] at e ⊢ <;> omega
  omega
theorem MinusI.done {n m out : List Nat} {borrow i : Nat} (h : MinusI n m out borrow i) (h1 : n.length ≤ i) (h2 : m.length ≤ i) (hle : lval m ≤ lval n) : lval out = lval n - lval m := by
  obtain ⟨a1, a2, a3, a4⟩ := h
  rw [List.take_of_length_le h1, List.take_of_length_le h2] at a4
  have hlt := lval_lt out a2
  rw [a1] at hlt
  rcases (show borrow = 0 ∨ borrow = 1 from by omega) with rfl | rfl <;> omega
/-- A number put in a place. -/
theorem lval_set (l : List Nat) (i v : Nat) (h : i < l.length) : lval (l.set i v) + Bs ^ i * lim l i = lval l + Bs ^ i * v := by
  have e1 : l = l.take i ++ (l[i] :: l.drop (i + 1)) := by rw [← List.drop_eq_getElem_cons h, List.take_append_drop]
  have e2 : l.set i v = l.take i ++ (v :: l.drop (i + 1)) := by rw [List.set_eq_take_append_cons_drop, if_pos h]
  have e3 : lim l i = l[i] := by unfold lim; rw [List.getD_eq_getElem?_getD, List.getElem?_eq_getElem h]; rfl
  have hl : (l.take i).length = i := by rw [List.length_take]; omega
  have f1 : lval l = lval (l.take i) + Bs ^ i * (l[i] + Bs * lval (l.drop (i + 1))) := by
    conv => lhs; rw [e1]
    rw [lval_append, hl]
    rfl
  have f2 : lval (l.set i v) = lval (l.take i) + Bs ^ i * (v + Bs * lval (l.drop (i + 1))) := by
    rw [e2, lval_append, hl]
    rfl
  rw [f1, f2, e3, Nat.mul_add, Nat.mul_add]
  omega
theorem lim_set (l : List Nat) (i j v : Nat) (h : i < l.length) : lim (l.set i v) j = if j = i then v else lim l j := by
  unfold lim
  rw [List.getD_eq_getElem?_getD, List.getElem?_set]
  by_cases e : i = j
  · rw [if_pos e, if_pos (show j = i from e.symm), if_pos h]
    rfl
  · rw [if_neg e, if_neg (fun h => e h.symm), List.getD_eq_getElem?_getD]
theorem Lims.set {l : List Nat} (h : Lims l) {x : Nat} (hx : x < Bs) (i : Nat) : Lims (l.set i x) := fun y hy => by
  rcases List.mem_or_eq_of_mem_set hy with hy | rfl
  · exact h y hy
  · exact hx
/-- Where a product stands, inside a row: out0 is what stood there before the row. -/
def RowI (m out0 out : List Nat) (x i carry k : Nat) : Prop :=
  out.length = out0.length ∧ Lims out ∧ carry < Bs ∧ lval out + Bs ^ (i + k) * carry = lval out0 + Bs ^ i * (x * lval (m.take k)) ∧ (∀ j, i + k ≤ j → lim out j = lim out0 j)
theorem RowI.start {out0 : List Nat} (h : Lims out0) (m : List Nat) (x i : Nat) : RowI m out0 out0 x i 0 0 := ⟨rfl, h, by decide, by simp [lval], fun _ _ => rfl⟩
theorem RowI.next {m out0 out : List Nat} {x i carry k y : Nat} (hm : Lims m) (hx : x < Bs) (h0 : i + k < out0.length) (h : RowI m out0 out x i carry k) (hy : y = lim out (i + k) + x * lim m k + carry) :
    RowI m out0 (out.set (i + k) (y % Bs)) x i (y / Bs) (k + 1) ∧ y < Bs * Bs := by
  obtain ⟨h1, h2, h3, h4, h5⟩ := h
  have b1 := lim_lt hm k
  have b2 := lim_lt h2 (i + k)
  have hB : 0 < Bs := by decide
  have hp : x * lim m k ≤ (Bs - 1) * (Bs - 1) := Nat.mul_le_mul (by omega) (by omega)
  have hyl : y < Bs * Bs := by
    have : (Bs - 1) * (Bs - 1) + 2 * (Bs - 1) < Bs * Bs := by decide
    omega
  refine ⟨⟨by rw [List.length_set]; exact h1, h2.set (Nat.mod_lt _ hB) _, Nat.div_lt_of_lt_mul hyl, ?_, ?_⟩, hyl⟩
  · have e1 := lval_set out (i + k) (y % Bs) (by omega)
    have e2 := Nat.mod_add_div y Bs
    have e3 : Bs ^ (i + k) * (y % Bs) + Bs ^ (i + (k + 1)) * (y / Bs) = Bs ^ (i + k) * lim out (i + k) + Bs ^ (i + k) * (x * lim m k) + Bs ^ (i + k) * carry := by
      rw [← Nat.add_assoc, Nat.pow_succ, Nat.mul_assoc, ← Nat.mul_add, e2, hy, Nat.mul_add, Nat.mul_add]
    have e4 : Bs ^ i * (x * lval (m.take (k + 1))) = Bs ^ i * (x * lval (m.take k)) + Bs ^ (i + k) * (x * lim m k) := by
      rw [lval_take_succ, Nat.pow_add]
      grind
    rw [e4]
    omega
  · intro j hj
    rw [lim_set _ _ _ _ (by omega), if_neg (by omega)]
    exact h5 j (by omega)
/-- Where a product stands, between rows. -/
def TimesI (n m out : List Nat) (i : Nat) : Prop := out.length = n.length + m.length + 1 ∧ Lims out ∧ lval out = lval (n.take i) * lval m ∧ ∀ j, i + m.length ≤ j → lim out j = 0
theorem TimesI.start (n m : List Nat) : TimesI n m (List.replicate (n.length + m.length + 1) 0) 0 :=
  ⟨by simp, fun x hx => by rw [(List.mem_replicate.1 hx).2]; decide, by rw [lval_zeros]; simp [lval], fun j _ => by
    unfold lim
    rw [List.getD_eq_getElem?_getD, List.getElem?_replicate]
    split <;> rfl⟩
theorem TimesI.next {n m out0 out : List Nat} {i carry : Nat} (h : TimesI n m out0 i) (hr : RowI m out0 out (lim n i) i carry (m.length + 1)) (hc : carry = 0) : TimesI n m out (i + 1) := by
  obtain ⟨h1, h2, h3, h4⟩ := h
  obtain ⟨r1, r2, _, r4, r5⟩ := hr
  subst hc
  refine ⟨by rw [r1]; exact h1, r2, ?_, fun j hj => ?_⟩
  · rw [List.take_of_length_le (show m.length ≤ m.length + 1 by omega), Nat.mul_zero, Nat.add_zero] at r4
    rw [r4, h3, lval_take_succ, Nat.add_mul, Nat.mul_assoc]
  · rw [r5 j (by omega)]
    exact h4 j (by omega)
/-- The last carry of a row is none. -/
theorem row_carry {n m out0 out : List Nat} {i x carry y : Nat} (h : TimesI n m out0 i) (hr : RowI m out0 out x i carry m.length) (hy : y = lim out (i + m.length) + x * lim m m.length + carry) : y / Bs = 0 := by
  obtain ⟨_, _, r3, _, r5⟩ := hr
  have e1 : lim out (i + m.length) = 0 := by rw [r5 _ (Nat.le_refl _)]; exact h.2.2.2 _ (Nat.le_refl _)
  have e2 : lim m m.length = 0 := by unfold lim; rw [List.getD_eq_getElem?_getD, List.getElem?_eq_none (Nat.le_refl _)]; rfl
  rw [hy, e1, e2]
  exact Nat.div_eq_of_lt (by omega)
theorem TimesI.done {n m out : List Nat} {i : Nat} (h : TimesI n m out i) (hi : n.length ≤ i) : Lims out ∧ lval out = lval n * lval m := by
  obtain ⟨_, h2, h3, _⟩ := h
  rw [List.take_of_length_le hi] at h3
  exact ⟨h2, h3⟩
/-- Which number is the greater, by their limbs: the loop from the end. -/
theorem lval_cmp {a b : List Nat} (ha : Lims a) (hl : a.length = b.length) (k : Nat) (hk : k < a.length) (hs : ∀ j, k < j → lim a j = lim b j) (hlt : lim a k < lim b k) : lval a < lval b := by
  have key : ∀ (j : Nat), k + 1 + j ≤ a.length → lval (a.take (k + 1 + j)) < lval (b.take (k + 1 + j)) := by
    intro j
    induction j with
    | zero =>
      intro _
      rw [Nat.add_zero, lval_take_succ, lval_take_succ]
      have h1 := lval_lt _ (ha.take k)
      rw [List.length_take, Nat.min_eq_left (by omega)] at h1
      have : Bs ^ k * (lim a k + 1) ≤ Bs ^ k * lim b k := Nat.mul_le_mul_left _ hlt
      rw [Nat.mul_add] at this
      omega
    | succ j ih =>
      intro h
      have := ih (by omega)
      rw [show k + 1 + (j + 1) = (k + 1 + j) + 1 by omega, lval_take_succ, lval_take_succ, hs (k + 1 + j) (by omega)]
      omega
  have := key (a.length - (k + 1)) (by omega)
  rw [show k + 1 + (a.length - (k + 1)) = a.length by omega] at this
  rwa [List.take_length, hl, List.take_length] at this
theorem lim_ext {a b : List Nat} (hl : a.length = b.length) (h : ∀ j, lim a j = lim b j) : a = b := by
  apply List.ext_getElem hl
  intro i h1 h2
  have := h i
  unfold lim at this
  rwa [List.getD_eq_getElem?_getD, List.getD_eq_getElem?_getD, List.getElem?_eq_getElem h1, List.getElem?_eq_getElem h2] at this
/-- What cmp answers. -/
def cmpN (a b : Nat) : Int := if (limbs a).length ≠ (limbs b).length then ((limbs a).length : Int) - (limbs b).length else if a < b then -1 else if b < a then 1 else 0
theorem cmpN_sign (a b : Nat) : (cmpN a b < 0 ↔ a < b) ∧ (0 < cmpN a b ↔ b < a) := by
  unfold cmpN
  by_cases h : (limbs a).length ≠ (limbs b).length
  · rw [if_pos h]
    rcases Nat.lt_or_ge (limbs a).length (limbs b).length with h1 | h1
    · have := limbs_mono h1
      omega
    · have := limbs_mono (a := b) (b := a) (by omega)
      omega
  · rw [if_neg h]
    rcases Nat.lt_trichotomy a b with h1 | h1 | h1
    · rw [if_pos h1]; omega
    · rw [if_neg (by omega), if_neg (by omega)]; omega
    · rw [if_neg (by omega), if_pos h1]; omega
/-- Digits of limbs. -/
theorem digN_limb (l : List Nat) (hl : Lims l) (i k : Nat) (hk : k < 9) : (lval l / 10 ^ (i * 9 + k)) % 10 = (lim l i / 10 ^ k) % 10 := by
  have hB : Bs = 10 ^ 9 := by decide
  have e1 : lval l / 10 ^ (i * 9) = lim l i + Bs * lval (l.drop (i + 1)) ∨ (l.length ≤ i ∧ lval l / 10 ^ (i * 9) = 0) := by
    have hp : 10 ^ (i * 9) = Bs ^ i := by rw [hB, ← Nat.pow_mul, Nat.mul_comm]
    have h1 := lval_lt _ (hl.take i)
    rcases Nat.lt_or_ge i l.length with hi | hi
    · left
      have e : l = l.take i ++ (l[i] :: l.drop (i + 1)) := by rw [← List.drop_eq_getElem_cons hi, List.take_append_drop]
      have hlen : (l.take i).length = i := by rw [List.length_take]; omega
      have e3 : lim l i = l[i] := by unfold lim; rw [List.getD_eq_getElem?_getD, List.getElem?_eq_getElem hi]; rfl
      rw [hlen] at h1
      have f1 : lval l = lval (l.take i) + Bs ^ i * (l[i] + Bs * lval (l.drop (i + 1))) := by
        conv => lhs; rw [e]
        rw [lval_append, hlen]
        rfl
      rw [hp, f1, Nat.add_mul_div_left _ _ (Nat.pow_pos (by decide)), Nat.div_eq_of_lt h1, e3]
      omega
    · right
      rw [List.take_of_length_le hi] at h1
      exact ⟨hi, by rw [hp]; exact Nat.div_eq_of_lt (Nat.lt_of_lt_of_le h1 (Nat.pow_le_pow_right (by decide) hi))⟩
  rw [Nat.pow_add, ← Nat.div_div_eq_div_mul]
  have hdk : Bs = 10 ^ k * (10 * 10 ^ (8 - k)) := by
    rw [hB, ← Nat.mul_assoc, Nat.mul_comm (10 ^ k), Nat.mul_assoc, ← Nat.pow_add]
    rw [show k + (8 - k) = 8 by omega]
  rcases e1 with e1 | ⟨h1, e1⟩
  · rw [e1]
    have : Bs * lval (l.drop (i + 1)) = 10 ^ k * (10 * 10 ^ (8 - k) * lval (l.drop (i + 1))) := by
      rw [← Nat.mul_assoc, ← hdk]
    rw [this, Nat.add_mul_div_left _ _ (Nat.pow_pos (by decide)), Nat.mul_assoc, Nat.add_mul_mod_self_left]
  · rw [e1]
    have : lim l i = 0 := by unfold lim; rw [List.getD_eq_getElem?_getD, List.getElem?_eq_none h1]; rfl
    rw [this]
end Go.Proofs.YtpeldjihalldkaaDoor

/- Plain: digits of limbs, limbs of digits, digit by digit. No program in sight. -/
namespace Go.Proofs.YtpeldjihalldkaaDoor

theorem digN_front (j n : Nat) : digN (j + 1) n = dg (n / 10 ^ j) :: digN j n := by
  rw [Nat.add_comm, digN_add]
  rfl
/-- Digits, from the end on, ahead of them what is not written yet. -/
def outD (T j n : Nat) : List UInt8 := List.replicate (T - j) 0 ++ digN j n
theorem length_outD {T j : Nat} (n : Nat) (h : j ≤ T) : (outD T j n).length = T := by
  unfold outD
  rw [List.length_append, List.length_replicate, length_digN]
  omega
theorem outD_zero (T n : Nat) : outD T 0 n = List.replicate T 0 := by simp [outD, digN]
theorem outD_all (T n : Nat) : outD T T n = digN T n := by simp [outD]
theorem outD_set {T j : Nat} (n : Nat) (h : j < T) : (outD T j n).set (T - 1 - j) (dg (n / 10 ^ j)) = outD T (j + 1) n := by
  unfold outD
  rw [digN_front]
  have e : T - j = (T - (j + 1)) + 1 := by omega
  rw [e, List.replicate_succ', List.append_assoc]
  have hl : (List.replicate (T - (j + 1)) (0 : UInt8)).length = T - 1 - j := by rw [List.length_replicate]; omega
  rw [List.set_append_right _ _ (by omega), hl, Nat.sub_self]
  rfl
/-- The digits that a limb holds. -/
theorem val_chunk (l : List UInt8) (e : Nat) (he : e ≤ l.length) : val (l.take e) = val (l.take (e - 9)) * Bs + val ((l.take e).drop (e - 9)) := by
  have h : l.take e = l.take (e - 9) ++ (l.take e).drop (e - 9) := by
    have := List.take_append_drop (e - 9) (l.take e)
    rw [List.take_take, Nat.min_eq_left (by omega)] at this
    exact this.symm
  have h2 := congrArg val h
  rw [val_append] at h2
  rcases Nat.lt_or_ge e 9 with h9 | h9
  · have e0 : e - 9 = 0 := by omega
    rw [e0] at h2 ⊢
    simp [val_nil]
  · have hl : ((l.take e).drop (e - 9)).length = 9 := by rw [List.length_drop, List.length_take]; omega
    rw [hl] at h2
    exact h2
theorem chunk_lt {l : List UInt8} (hl : Digs l) (e : Nat) (he : e ≤ l.length) : val ((l.take e).drop (e - 9)) < Bs := by
  have h := val_lt _ ((hl.take e).drop (e - 9))
  have h2 : ((l.take e).drop (e - 9)).length ≤ 9 := by rw [List.length_drop, List.length_take]; omega
  exact Nat.lt_of_lt_of_le h (Nat.pow_le_pow_right (by decide) h2)
/-- Where the limbs of digits stand. -/
def NatI (l : List UInt8) (out : List Nat) (e : Nat) : Prop := Lims out ∧ e ≤ l.length ∧ lval out + Bs ^ out.length * val (l.take e) = val l
theorem NatI.start (l : List UInt8) : NatI l [] l.length := ⟨Lims.nil, Nat.le_refl _, by rw [List.take_length]; simp [lval]⟩
theorem NatI.next {l : List UInt8} {out : List Nat} {e : Nat} (hl : Digs l) (h : NatI l out e) : NatI l (out ++ [val ((l.take e).drop (e - 9))]) (e - 9) := by
  obtain ⟨h1, h2, h3⟩ := h
  refine ⟨h1.snoc (chunk_lt hl e h2), by omega, ?_⟩
  rw [val_chunk l e h2] at h3
  rw [lval_snoc, List.length_append, List.length_singleton, Nat.pow_succ, Nat.mul_assoc, Nat.mul_comm Bs]
  rw [Nat.mul_add] at h3
  omega
theorem NatI.done {l : List UInt8} {out : List Nat} (h : NatI l out 0) : lval out = val l := by
  have := h.2.2
  simpa [val_nil] using this
/-- Digits of one length are in the order of their numbers. -/
theorem less_val : ∀ (a b : List UInt8), Digs a → Digs b → a.length = b.length → (Go.Op.bytesLess a b = decide (val a < val b))
  | [], [], _, _, _ => by simp [Go.Op.bytesLess, val_nil]
  | [], _ :: _, _, _, h => by simp at h
  | _ :: _, [], _, _, h => by simp at h
  | x :: a, y :: b, ha, hb, h => by
    have hx := ha x (by simp)
    have hy := hb y (by simp)
    have hl : a.length = b.length := by simpa using h
    have da : Digs a := fun c hc => ha c (by simp [hc])
    have db : Digs b := fun c hc => hb c (by simp [hc])
    have ih := less_val a b da db hl
    have va := val_lt a da
    have vb := val_lt b db
    rw [hl] at va
    unfold Dig at hx hy
    rw [val_cons, val_cons, hl]
    unfold Go.Op.bytesLess
    rw [ih]
    generalize 10 ^ b.length = P at *
    rcases Nat.lt_trichotomy x.toNat y.toNat with h1 | h1 | h1
    · have e1 : decide (x < y) = true := decide_eq_true (UInt8.lt_iff_toNat_lt.2 h1)
      have e2 : (x.toNat - 48 + 1) * P ≤ (y.toNat - 48) * P := Nat.mul_le_mul_right _ (by omega)
      rw [Nat.add_mul] at e2
      rw [e1, Bool.true_or, eq_comm, decide_eq_true_iff]
      omega
    · have e0 : x = y := UInt8.toNat_inj.1 h1
      subst e0
      have e1 : decide (x < x) = false := decide_eq_false (by rw [UInt8.lt_iff_toNat_lt]; omega)
      rw [e1, Bool.false_or, beq_self_eq_true, Bool.true_and, decide_eq_decide]
      omega
    · have e1 : decide (x < y) = false := decide_eq_false (by rw [UInt8.lt_iff_toNat_lt]; omega)
      have e3 : (x == y) = false := by rw [beq_eq_false_iff_ne]; intro e; rw [e] at h1; omega
      have e2 : (y.toNat - 48 + 1) * P ≤ (x.toNat - 48) * P := Nat.mul_le_mul_right _ (by omega)
      rw [Nat.add_mul] at e2
      rw [e1, e3, Bool.false_or, Bool.false_and, eq_comm, decide_eq_false_iff_not]
      omega
end Go.Proofs.YtpeldjihalldkaaDoor

/- Values of layer 1: decimals, limbs; trim and limb walked. -/
namespace Go.Proofs.YtpeldjihalldkaaDoor
open Go Go.RowKit

def decG (neg : Bool) (l : List UInt8) (s : Int) : Value := .agg #[.bool neg, .string ⟨l.toArray⟩, .int .i64 s]
def decV (d : Dc) : Value := decG d.neg (dtxt d.n) d.s
def noneV : Value := decG false [] 0
/-- A decimal and no error, or none and the error e. -/
def resV (o : Option Dc) (e : Int) : Value := match o with | some d => .tuple #[decV d, .int .i64 0] | none => .tuple #[noneV, .int .i64 e]
def u64 (x : Nat) : Value := .int .u64 (x : Int)
def u64s (l : List Nat) : List Value := l.map u64
theorem length_u64s (l : List Nat) : (u64s l).length = l.length := by simp [u64s]
theorem u64s_append (l m : List Nat) : u64s (l ++ m) = u64s l ++ u64s m := by simp [u64s]
theorem u64s_one (l : List Nat) : ∀ u ∈ u64s l, u.oneCell' = true := by
  intro u hu
  obtain ⟨c, _, rfl⟩ := List.mem_map.1 hu
  rfl
theorem u64s_take (l : List Nat) (n : Nat) : u64s (l.take n) = (u64s l).take n := by simp [u64s]
theorem infoU64 : (Tryd.prog.info? 23).map (fun i => (i.zero, i.size, i.bytes)) = some (some (.int .u64 0), 1, 8) := by kernel_rfl
/-- A slice that reads as limbs. -/
def LimA (w : World) (A : Option Addr) (c : Nat) (l : List Nat) : Prop := Span w A (u64s l) ∧ l.length ≤ c ∧ c ≤ 9223372036854775807
theorem LimA.kept {w w' : World} {A : Option Addr} {c : Nat} {l : List Nat} (h : LimA w A c l) (k : Kp [] w w') : LimA w' A c l := ⟨h.1.kept k, h.2⟩
theorem LimA.take {w : World} {A : Option Addr} {c : Nat} {l : List Nat} (h : LimA w A c l) (k : Nat) : LimA w A c (l.take k) := ⟨by rw [u64s_take]; exact h.1.take k, by have := h.2.1; rw [List.length_take]; omega, h.2.2⟩
theorem LimA.get {w : World} {A : Option Addr} {c : Nat} {l : List Nat} (h : LimA w A c l) {j : Nat} (hj : j < l.length) : ∃ ad, A = some ad ∧ w.cell? (ad.add j) = some (.int .u64 (l[j] : Int)) := by
  obtain ⟨ad, e, hc⟩ := h.1.get (j := j) (by rw [length_u64s]; exact hj)
  refine ⟨ad, e, ?_⟩
  rw [hc]
  simp [u64s, u64]
/-- Limbs of a number in a slice of just their length. -/
def NatA (w : World) (A : Option Addr) (c n : Nat) : Prop := LimA w A c (limbs n)
def limLen (n : Nat) : Nat := (limbs n).length
theorem trim_end (l : List Nat) (hl : Lims l) (k : Nat) (hk : k ≤ l.length) (hv : lval (l.take k) = lval l) (h0 : k = 0 ∨ lim l (k - 1) ≠ 0) : limbs (lval l) = l.take k := by
  rw [← hv]
  refine limbs_lval _ (hl.take k) ?_
  intro m e
  have h1 := congrArg List.length e
  rw [List.length_take, List.length_append, List.length_singleton] at h1
  rcases h0 with h0 | h0
  · omega
  · apply h0
    have h2 : (l.take k)[k - 1]? = (m ++ [0])[k - 1]? := by rw [e]
    rw [List.getElem?_take, if_pos (by omega), List.getElem?_append_right (by omega)] at h2
    have e2 : k - 1 - m.length = 0 := by omega
    rw [e2] at h2
    unfold lim
    rw [List.getD_eq_getElem?_getD, h2]
    rfl
theorem trim_step (l : List Nat) (k : Nat) (h : lim l k = 0) : lval (l.take k) = lval (l.take (k + 1)) := by
  rw [lval_take_succ, h, Nat.mul_zero]
  rfl
theorem lim_get {l : List Nat} {k : Nat} (h : k < l.length) : l[k] = lim l k := by
  unfold lim
  rw [List.getD_eq_getElem?_getD, List.getElem?_eq_getElem h]
  rfl
def sLen (v : Value) : Nat := match v with | .slice _ n _ => n | _ => 0
end Go.Proofs.YtpeldjihalldkaaDoor

/- A text turned into bytes, in the words of memory. -/
namespace Go.Proofs.YtpeldjihalldkaaDoor
open Go Go.RowKit

theorem kp_bytes (w : World) (s : ByteArray) : Kp [] w (Lib.bytesWorld w 5 s) := by
  refine ⟨rfl, rfl, rfl, by rw [Lib.bytesWorld_size]; omega, fun k hk _ => Lib.bytesWorld_at_old w 5 s k hk⟩
theorem bytes_cell (w : World) (l : List UInt8) (j : Nat) (h : j < l.length) : (Lib.bytesWorld w 5 ⟨l.toArray⟩).cell? ⟨w.heap.size, j, none⟩ = some (.int .u8 (l[j].toNat : Int)) := by
  have h2 := Lib.bytesWorld_cell w 5 ⟨l.toArray⟩ j (by simpa [ByteArray.size] using h)
  rw [h2, List.getD_eq_getElem?_getD]
  simp [h]
theorem conv_bytes (w : World) (l : List UInt8) (n : Nat) (hn : n = l.length) : (convert 9 101 (.string ⟨l.toArray⟩)).run Tryd.prog w = .ok (.slice (some ⟨w.heap.size, 0, none⟩) n (grownCap w n 0 5)) (Lib.bytesWorld w 5 ⟨l.toArray⟩) := by
  subst hn
  have h := Lib.run_convert_string_bytes (P := Tryd.prog) w 9 101 5 ⟨l.toArray⟩ Tryd.underlying9 Tryd.underlying101 Tryd.underlying5
  have e : (⟨l.toArray⟩ : ByteArray).size = l.length := by simp [ByteArray.size]
  rw [e] at h
  exact h
theorem size_mk (l : List UInt8) : (⟨l.toArray⟩ : ByteArray).size = l.length := by simp [ByteArray.size]
theorem extract_mk (l : List UInt8) (i j : Nat) : (⟨l.toArray⟩ : ByteArray).extract i j = ⟨((l.take j).drop i).toArray⟩ := by
  apply ByteArray.ext
  rw [ByteArray.data_extract]
  apply Array.toList_inj.1
  rw [Array.toList_extract]
  simp [List.extract, List.drop_take]
end Go.Proofs.YtpeldjihalldkaaDoor

/- made of layer 1. -/
namespace Go.Proofs.YtpeldjihalldkaaDoor
open Go Go.RowKit

theorem trimLeft_dstr (l : List UInt8) (hl : Digs l) : Lib.trimLeftB l 48 = dstr (val l) := by
  rw [← dropZeros l hl]
  rfl
theorem suffix_dstr (n : Nat) : Lib.hasSuffix (dstr n) [48] = decide (n ≠ 0 ∧ n % 10 = 0) := by
  by_cases h : n = 0
  · subst h; rfl
  · rw [dstr_step h]
    have e : Lib.hasSuffix (dstr (n / 10) ++ [dg n]) [48] = decide (dg n = 48) := by
      unfold Lib.hasSuffix
      rw [Bool.eq_iff_iff, List.isSuffixOf_iff_suffix, decide_eq_true_iff]
      constructor
      · rintro ⟨t, ht⟩
        have := (List.append_inj' ht rfl).2
        injection this with this
        exact this.symm
      · intro h; rw [h]; exact ⟨_, rfl⟩
    rw [e, decide_eq_decide]
    constructor
    · intro h2
      have := congrArg UInt8.toNat h2
      rw [dg_toNat] at this
      have e48 : (48 : UInt8).toNat = 48 := rfl
      rw [e48] at this
      exact ⟨h, by omega⟩
    · rintro ⟨_, h2⟩
      apply UInt8.toNat_inj.1
      rw [dg_toNat, h2]
      rfl
theorem dstr_cut {n : Nat} (h : n ≠ 0) : (dstr n).take ((dstr n).length - 1) = dstr (n / 10) := by
  rw [dstr_step h, List.length_append, List.length_singleton, Nat.add_sub_cancel, List.take_left]
theorem redN_go {n s : Nat} (h : n ≠ 0 ∧ n % 10 = 0) : redN n (s + 1) = redN (n / 10) s := if_pos h
theorem redN_stop {n s : Nat} (h : ¬ (n ≠ 0 ∧ n % 10 = 0)) : redN n (s + 1) = (n, s + 1) := if_neg h
theorem norm_red {neg : Bool} {N S n s : Nat} (h : redN N S = (n, s)) : norm neg N S = if n = 0 then some ⟨false, 0, 0⟩ else if topN ≤ n ∨ 60 < s then none else some ⟨neg, n, s⟩ := by
  unfold norm
  rw [h]
  by_cases h0 : N = 0
  · subst h0
    have : n = 0 := by
      cases S with
      | zero => injection h with h _; exact h.symm
      | succ S => rw [redN_stop (by simp)] at h; injection h with h _; exact h.symm
    rw [if_pos rfl, if_pos this]
  · have := redN_ne (s := S) h0
    rw [h] at this
    rw [if_neg h0, if_neg this]
def MadePost (w : World) (o : Option Dc) (e : Ending) (w' : World) : Prop := e = .returned (resV o 3) ∧ Kp [] w w'
theorem made_zero {w w' : World} (k : Kp [] w w') {o : Option Dc} (h : o = some ⟨false, 0, 0⟩) : MadePost w o (.returned (.tuple #[.agg #[.bool false, .string ⟨#[48]⟩, .int .i64 0], .int .i64 0])) w' := by subst h; exact ⟨rfl, k⟩
theorem made_none {w w' : World} (k : Kp [] w w') {o : Option Dc} (h : o = none) : MadePost w o (.returned (.tuple #[.agg #[.bool false, .string ⟨#[]⟩, .int .i64 0], .int .i64 3])) w' := by subst h; exact ⟨rfl, k⟩
theorem made_some {w w' : World} (k : Kp [] w w') {o : Option Dc} {neg : Bool} {n s : Nat} (h0 : n ≠ 0) (h : o = some ⟨neg, n, s⟩) : MadePost w o (.returned (.tuple #[.agg #[.bool neg, .string ⟨(dstr n).toArray⟩, .int .i64 (s : Int)], .int .i64 0])) w' := by
  subst h
  refine ⟨?_, k⟩
  unfold resV decV decG dtxt
  simp only [if_neg h0]
end Go.Proofs.YtpeldjihalldkaaDoor

/- Room for a result of layer 1; noughts in a row. -/
namespace Go.Proofs.YtpeldjihalldkaaDoor
open Go Go.RowKit Go.Lib

theorem repeat_zeros (n : Nat) : Lib.repeatL [48] n = List.replicate n 48 := by
  induction n with
  | zero => rfl
  | succ n ih => rw [List.replicate_succ, ← ih]; rfl
theorem repeat_any (w : World) (n : Nat) (hn : n ≤ 1000000) : Calls Tryd.prog 90 #[.string ⟨#[48]⟩, .int .i64 (n : Int)] w fun e w' => e = .returned (.string ⟨(List.replicate n 48).toArray⟩) ∧ Kp [] w w' := by
  have h := Tryd.strings_Repeat ⟨#[48]⟩ n w (by omega) (by show 1 * n ≤ _; omega)
  have e : Lib.repeatL (⟨#[48]⟩ : ByteArray).data.toList n = List.replicate n 48 := repeat_zeros n
  rw [e] at h
  exact h.mono fun e w' ⟨h1, h2⟩ => ⟨h1, Kp.of_below h2⟩
/-- What stands where the result will lie. -/
def Room (g : Nat) (w : World) : Prop := ∃ cs, Cells w g 26 cs ∧ cs.length = 3
theorem Room.kept {g : Nat} {w w' : World} (h : Room g w) (k : Kp [] w w') : Room g w' := by
  obtain ⟨cs, h1, h2⟩ := h
  exact ⟨cs, h1.keep k (by simp), h2⟩
theorem Room.cells {g : Nat} {w : World} (h : Room g w) : ∃ a b c, w.cell? ⟨g, 0, none⟩ = some a ∧ w.cell? ⟨g, 1, none⟩ = some b ∧ w.cell? ⟨g, 2, none⟩ = some c ∧ w.frozen? ⟨g, 0, none⟩ = false ∧ w.frozen? ⟨g, 1, none⟩ = false ∧ w.frozen? ⟨g, 2, none⟩ = false := by
  obtain ⟨cs, h1, h2⟩ := h
  match cs, h2 with
  | [a, b, c], _ => exact ⟨a, b, c, h1.cell 0, h1.cell 1, h1.cell 2, h1.free 0, h1.free 1, h1.free 2⟩
theorem Room.fresh (w : World) (a b c : Value) : Room w.heap.size (w.alloc (.cells #[a, b, c] 26)) := ⟨[a, b, c], Cells.fresh w 26 [a, b, c], rfl⟩
theorem kp_room {w w1 : World} (k : Kp [] w w1) (a b c : Value) : Kp [] w (((w1.setCell ⟨w.heap.size, 0, none⟩ a).setCell ⟨w.heap.size, 1, none⟩ b).setCell ⟨w.heap.size, 2, none⟩ c) :=
  ((k.setCell (p := ⟨w.heap.size, 0, none⟩) (fun h => by simp at h) a).setCell (p := ⟨w.heap.size, 1, none⟩) (fun h => by simp at h) b).setCell (p := ⟨w.heap.size, 2, none⟩) (fun h => by simp at h) c
end Go.Proofs.YtpeldjihalldkaaDoor

/- Print of layer 1. -/
namespace Go.Proofs.YtpeldjihalldkaaDoor
open Go Go.RowKit Go.Lib

set_option maxRecDepth 100000 in
set_option maxHeartbeats 6400000 in
theorem print_any (w : World) (d : Dc) (h1 : (dtxt d.n).length ≤ 1000) (h2 : d.s ≤ 1000) :
    Calls Tryd.prog 71 #[.agg #[.bool d.neg, .string ⟨(dtxt d.n).toArray⟩, .int .i64 (d.s : Int)]] w fun e w' => e = .returned (.string ⟨(printL d).toArray⟩) ∧ Kp [] w w' := by
  have hpl : padL d = List.replicate (d.s + 1 - (dtxt d.n).length) 48 ++ dtxt d.n := rfl
  have hlen := (padL_ok d).2.2
  have hpr : printL d = (if d.neg then [45] else []) ++ (if d.s = 0 then padL d else (padL d).take ((padL d).length - d.s) ++ 46 :: (padL d).drop ((padL d).length - d.s)) := rfl
  obtain ⟨n, hn⟩ : ∃ n, n = d.s + 1 - (dtxt d.n).length := ⟨_, rfl⟩
  obtain ⟨D, hD⟩ : ∃ D, D = dtxt d.n := ⟨_, rfl⟩
  obtain ⟨neg, hneg⟩ : ∃ neg, neg = d.neg := ⟨_, rfl⟩
  obtain ⟨s, hs⟩ : ∃ s, s = d.s := ⟨_, rfl⟩
  obtain ⟨O, hO⟩ : ∃ O, O = printL d := ⟨_, rfl⟩
  obtain ⟨J, hJ⟩ : ∃ J, J = padL d := ⟨_, rfl⟩
  rw [← hO, ← hneg, ← hs, ← hJ] at hpr
  rw [← hJ, ← hn, ← hD] at hpl
  rw [← hJ, ← hs] at hlen
  rw [← hs, ← hD] at hn
  rw [← hD] at h1
  rw [← hs] at h2
  rw [← hO, ← hneg, ← hs, ← hD]
  clear hO hneg hs hD hJ
  obtain ⟨x, hx⟩ : ∃ x : Int, x = (s : Int) + 1 - (D.length : Int) := ⟨_, rfl⟩
  have w1 : IntKind.i64.wrap ((s : Int) + 1) = (s : Int) + 1 := IntWalk.i64_in _ (by omega)
  have w2 : IntKind.i64.wrap ((s : Int) + 1 - (D.length : Int)) = x := by rw [IntWalk.i64_in _ (by omega)]; exact hx.symm
  have hmx : max 0 x = (n : Int) := by omega
  have hJl : J.length = n + D.length := by rw [hpl, List.length_append, List.length_replicate]
  have qR := fun X => repeat_any X n (by omega)
  have hadd := fun X => run_add_text (P := Tryd.prog) (List.replicate n 48) D J hpl (by rw [List.length_replicate]; omega) X
  obtain ⟨Z, hZ⟩ : ∃ Z : List UInt8, Z = List.replicate n 48 := ⟨_, rfl⟩
  simp only [← hZ] at qR hadd
  have hJ9 : J.length ≤ 3000 := by omega
  have hDs : (⟨D.toArray⟩ : ByteArray).size = D.length := size_mk _
  have hJs : (⟨J.toArray⟩ : ByteArray).size = J.length := size_mk _
  have Hpr := hid hpr
  clear hpr hpl hZ hn hx h1 hJl
  have e45 : ∀ X (l : List UInt8), l.length ≤ 10000 → (Op.stringOp .add ⟨#[45]⟩ ⟨l.toArray⟩).run Tryd.prog X = .ok (.string ⟨([45] ++ l).toArray⟩) X := fun X l h => run_add_text (P := Tryd.prog) [45] l ([45] ++ l) rfl (by simp; omega) X
  have e0 : ∀ X (l : List UInt8), l.length ≤ 10000 → (Op.stringOp .add ⟨#[]⟩ ⟨l.toArray⟩).run Tryd.prog X = .ok (.string ⟨l.toArray⟩) X := fun X l h => run_add_text (P := Tryd.prog) [] l l rfl (by simp; omega) X
  have E45 := hid e45
  have E0 := hid e0
  clear e45 e0
  have HK := hid ((Kp.refl [] w).alloc (.cells #[.bool neg, .string ⟨D.toArray⟩, .int .i64 (s : Int)] 26))
  by_cases hs0 : s = 0
  · have ea := fun X => E45.out X J (by omega)
    have eb := fun X => E0.out X J (by omega)
    have HR : Hid (O = (if neg then [45] else []) ++ J) := by rw [Hpr.out, if_pos hs0]; exact hid rfl
    have hsb : ((s : Int) == 0) = true := by rw [beq_iff_eq]; omega
    clear hs0
    go_enter Tryd.func71, Tryd.ntmps71
    go_wp2_with fail
    have hC := Cells.fresh w 26 [.bool neg, .string ⟨D.toArray⟩, .int .i64 (s : Int)]
    have HC := hid hC
    clear hC
    go_region_held3 (fun w' => w'.cell? ⟨w.heap.size, 1, none⟩ = some (.string ⟨D.toArray⟩) ∧ w'.cell? ⟨w.heap.size, 2, none⟩ = some (.int .i64 (s : Int)))
      (first | exact ⟨y1, y2⟩ | go_keep)
      (first
        | (go_at_call 90; (with_reducible refine (qR _).mono ?_); rintro e w5 ⟨rfl, k5⟩; have y0 := k5.cell (HC.out.cell 0) (by simp); have y1 := k5.cell (HC.out.cell 1) (by simp); have y2 := k5.cell (HC.out.cell 2) (by simp)))
    have HF := hid (HK.out.drew.nil k5)
    clear k5
    cases neg
    all_goals
      go_wp2_with fail
      go_ret
      exact ⟨by rw [HR.out]; rfl, HF.out⟩
  · have hsb : ((s : Int) == 0) = false := by rw [beq_eq_false_iff_ne]; omega
    obtain ⟨p, hp⟩ : ∃ p, p = J.length - s := ⟨_, rfl⟩
    have HR : Hid (O = (if neg then [45] else []) ++ (J.take p ++ 46 :: J.drop p)) := by rw [Hpr.out, if_neg hs0, hp]; exact hid rfl
    have x1 := extract_mk J 0 p
    have x2 := extract_mk J p J.length
    rw [List.drop_zero] at x1
    rw [List.take_length] at x2
    have hsub : (J.length : Int) - (s : Int) = (p : Int) := by omega
    have i1 : (0 : Int) ≤ (p : Int) := by omega
    have i2 : (p : Int) ≤ (J.length : Int) := by omega
    have lP : (J.take p).length ≤ 3000 := by rw [List.length_take]; omega
    have lQ : (J.drop p).length ≤ 3000 := by rw [List.length_drop]; omega
    obtain ⟨P, hP⟩ : ∃ P, P = J.take p := ⟨_, rfl⟩
    obtain ⟨Q, hQ⟩ : ∃ Q, Q = J.drop p := ⟨_, rfl⟩
    simp only [← hP, ← hQ] at x1 x2 lP lQ HR
    have ea := fun X => E45.out X P (by omega)
    have eb := fun X => E0.out X P (by omega)
    have ec : ∀ X (l : List UInt8), l.length ≤ 10000 → (Op.stringOp .add ⟨l.toArray⟩ ⟨#[46]⟩).run Tryd.prog X = .ok (.string ⟨(l ++ [46]).toArray⟩) X := fun X l h => run_add_text (P := Tryd.prog) l [46] (l ++ [46]) rfl (by simp; omega) X
    have ed : ∀ X (l : List UInt8), l.length ≤ 10000 → (Op.stringOp .add ⟨l.toArray⟩ ⟨Q.toArray⟩).run Tryd.prog X = .ok (.string ⟨(l ++ Q).toArray⟩) X := fun X l h => run_add_text (P := Tryd.prog) l Q (l ++ Q) rfl (by omega) X
    have ec1 := fun X => ec X ([45] ++ P) (by simp; omega)
    have ec2 := fun X => ec X P (by omega)
    have ed1 := fun X => ed X ([45] ++ P ++ [46]) (by simp; omega)
    have ed2 := fun X => ed X (P ++ [46]) (by simp; omega)
    obtain ⟨T1, hT1⟩ : ∃ T1, T1 = [45] ++ P := ⟨_, rfl⟩
    simp only [← hT1] at ea ec1 ed1
    obtain ⟨T2, hT2⟩ : ∃ T2, T2 = T1 ++ [46] := ⟨_, rfl⟩
    obtain ⟨T3, hT3⟩ : ∃ T3, T3 = P ++ [46] := ⟨_, rfl⟩
    simp only [← hT2] at ec1 ed1
    simp only [← hT3] at ec2 ed2
    obtain ⟨T4, hT4⟩ : ∃ T4, T4 = T2 ++ Q := ⟨_, rfl⟩
    obtain ⟨T5, hT5⟩ : ∃ T5, T5 = T3 ++ Q := ⟨_, rfl⟩
    simp only [← hT4] at ed1
    simp only [← hT5] at ed2
    have HT := hid (And.intro hT1 (And.intro hT2 (And.intro hT3 (And.intro hT4 hT5))))
    clear hs0 hp hP hQ hT1 hT2 hT3 hT4 hT5 ec ed
    go_enter Tryd.func71, Tryd.ntmps71
    go_wp2_with fail
    have hC := Cells.fresh w 26 [.bool neg, .string ⟨D.toArray⟩, .int .i64 (s : Int)]
    have HC := hid hC
    clear hC
    go_region_held3 (fun w' => w'.cell? ⟨w.heap.size, 1, none⟩ = some (.string ⟨D.toArray⟩) ∧ w'.cell? ⟨w.heap.size, 2, none⟩ = some (.int .i64 (s : Int)))
      (first | exact ⟨y1, y2⟩ | go_keep)
      (first
        | (go_at_call 90; (with_reducible refine (qR _).mono ?_); rintro e w5 ⟨rfl, k5⟩; have y0 := k5.cell (HC.out.cell 0) (by simp); have y1 := k5.cell (HC.out.cell 1) (by simp); have y2 := k5.cell (HC.out.cell 2) (by simp)))
    have HF := hid (HK.out.drew.nil k5)
    clear k5
    cases neg
    all_goals
      go_wp2_with fail
      go_quiet (fail)
      go_wp2_with fail
      go_ret
      refine ⟨?_, HF.out.drewN _⟩
      obtain ⟨r1, r2, r3, r4, r5⟩ := HT.out
      rw [HR.out]
      first
        | (show Ending.returned (.string ⟨T4.toArray⟩) = _; rw [r4, r2, r1]; simp)
        | (show Ending.returned (.string ⟨T5.toArray⟩) = _; rw [r5, r3]; simp)
end Go.Proofs.YtpeldjihalldkaaDoor

/- Plain: how long a decimal's text is. No program in sight. -/
namespace Go.Proofs.YtpeldjihalldkaaDoor

theorem pad_len {d : Dc} (h : Ok d) : (padL d).length ≤ 61 := by
  have h1 := length_dtxt_le (k := 60) h.1 (by decide)
  have h2 := h.2.1
  unfold padL
  rw [List.length_append, List.length_replicate]
  omega
theorem print_len {d : Dc} (h : Ok d) : (printL d).length ≤ 63 := by
  have h1 := pad_len h
  unfold printL bareL
  rw [List.length_append]
  have h2 : (if d.neg then [45] else ([] : List UInt8)).length ≤ 1 := by split <;> simp
  have h3 : (if d.s = 0 then padL d else (padL d).take ((padL d).length - d.s) ++ 46 :: (padL d).drop ((padL d).length - d.s)).length ≤ 62 := by
    split
    · omega
    · rw [List.length_append, List.length_cons, List.length_take, List.length_drop]; omega
  omega
end Go.Proofs.YtpeldjihalldkaaDoor

/- text.Print of what has no kids; Show; View. -/
namespace Go.Proofs.YtpeldjihalldkaaDoor
open Go Go.RowKit Go.Lib

theorem tquote_any (W : World) (x : Txt) (h : x.length ≤ 100 ∧ validD x = true) : Calls Tryd.prog 45 #[.string ⟨x.toArray⟩] W fun e w' => e = .returned (.string ⟨(quoteL x).toArray⟩) ∧ Kp [] W w' :=
  qquote_any W ⟨x.toArray⟩ (by rw [show (⟨x.toArray⟩ : ByteArray).size = x.length from size_mk _]; omega) h.2
theorem quote_len (x : Txt) : (quoteL x).length ≤ 6 * x.length + 2 := by
  have := (body_len x).2
  unfold quoteL
  simp
  omega
theorem dec_len : ∀ i : Fin 100, (Go.Lib.decDigits i.val).length ≤ 2 := by decide +kernel
theorem atom_len {k m : Nat} {num : Option Dc} {t : Txt} {keys : List Txt} {kids : List Vl} {code : Nat} (h : FineV (.mk k m num t keys kids code)) : (atomL k num t code).length ≤ 700 := by
  cases h with
  | mk _ _ _ _ _ _ _ hk hm hn hn0 ht ht0 hkl hk0 hks hkd hc hcode hc0 hc8 hmany hf =>
    have h1 := quote_len t
    have h2 := dec_len ⟨code, hcode⟩
    unfold atomL
    split
    · simp
    · simp
    · simp
    · obtain ⟨d, rfl, ho⟩ := hn rfl
      have := print_len ho
      dsimp only
      omega
    · omega
    · rw [List.length_cons]; dsimp only at h2; omega
set_option maxRecDepth 100000 in
set_option maxHeartbeats 6400000 in
theorem tprint_any (w : World) (k m : Nat) (num : Option Dc) (t : Txt) (keys : List Txt) (code : Nat) (hf : FineV (.mk k m num t keys [] code)) (h7 : k ≠ 7) (h6 : k ≠ 6) (A : Option Addr) (nk ck : Nat) (B : Option Addr) (nb cb : Nat) :
    Calls Tryd.prog 47 #[.agg #[.int .i64 (k : Int), .int .u64 (m : Int), .bool (vN num), .string ⟨(vD num).toArray⟩, .int .i64 (vS num), .string ⟨t.toArray⟩, .slice A nk ck, .slice B nb cb, .int .i64 (code : Int)]] w fun e w' => e = .returned (.string ⟨(atomL k num t code).toArray⟩) ∧ Kp [] w w' := by
  cases hf with
  | mk _ _ _ _ _ _ _ hk hm hn hn0 ht ht0 hkl hk0 hks hkd hc hcode hc0 hc8 hmany hf =>
    have hk0 : Kp [] w (w.alloc (.cells #[.int .i64 (k : Int), .int .u64 (m : Int), .bool (vN num), .string ⟨(vD num).toArray⟩, .int .i64 (vS num), .string ⟨t.toArray⟩, .slice A nk ck, .slice B nb cb, .int .i64 (code : Int)] 31)) := (Kp.refl _ _).alloc _
    have HK := hid hk0
    have hcf := Cells.fresh w 31 [.int .i64 (k : Int), .int .u64 (m : Int), .bool (vN num), .string ⟨(vD num).toArray⟩, .int .i64 (vS num), .string ⟨t.toArray⟩, .slice A nk ck, .slice B nb cb, .int .i64 (code : Int)]
    have HC := hid hcf
    have hd2 := dec_len ⟨code, hcode⟩
    dsimp only at hd2
    clear hk0 hcf hks hkd hkl hf hc hc0 hc8 hmany ht0 hm
    rcases (show k = 1 ∨ k = 2 ∨ k = 3 ∨ k = 4 ∨ k = 5 ∨ k = 8 by omega) with rfl | rfl | rfl | rfl | rfl | rfl
    · clear hn hn0 ht hk h7 h6 HC
      go_enter Tryd.func47, Tryd.ntmps47
      go_wp2_with fail
      go_ret
      exact ⟨rfl, HK.out⟩
    · clear hn hn0 ht hk h7 h6 HC
      go_enter Tryd.func47, Tryd.ntmps47
      go_wp2_with fail
      go_ret
      exact ⟨rfl, HK.out⟩
    · clear hn hn0 ht hk h7 h6 HC
      go_enter Tryd.func47, Tryd.ntmps47
      go_wp2_with fail
      go_ret
      exact ⟨rfl, HK.out⟩
    · obtain ⟨e, rfl, ho⟩ := hn rfl
      have hdl := length_dtxt_le (k := 60) ho.1 (by decide)
      have q := fun W => print_any W e (by omega) (by have := ho.2.1; omega)
      have hr : atomL 4 (some e) t code = printL e := rfl
      rw [hr]
      simp only [vN, vD, vS] at HK ⊢
      clear hr hn hn0 ht hk h7 h6 HC ho hdl hk0
      go_enter Tryd.func47, Tryd.ntmps47
      go_wp2_with fail
      (with_reducible refine (q _).mono ?_)
      rintro e' w2 ⟨rfl, k2⟩
      have HK2 := hid (HK.out.nil k2)
      clear k2 q
      go_wp2_with fail
      go_ret
      exact ⟨rfl, HK2.out⟩
    · have q := fun W => tquote_any W t ht
      have hr : atomL 5 num t code = quoteL t := rfl
      rw [hr]
      clear hr hn hn0 ht hk h7 h6 HC hk0
      obtain ⟨Y, hY⟩ : ∃ Y, Y = quoteL t := ⟨_, rfl⟩
      simp only [← hY] at q ⊢
      clear hY
      go_enter Tryd.func47, Tryd.ntmps47
      go_wp2_with fail
      (with_reducible refine (q _).mono ?_)
      rintro e' w2 ⟨rfl, k2⟩
      have HK2 := hid (HK.out.nil k2)
      clear k2 q
      go_wp2_with fail
      go_ret
      exact ⟨rfl, HK2.out⟩
    · have q := fun W => Tryd.strconv_Itoa_small code hcode W
      have hr : atomL 8 num t code = 33 :: Go.Lib.decDigits code := rfl
      rw [hr]
      have A1 := fun W => run_add_text (P := Tryd.prog) [33] (Go.Lib.decDigits code) (33 :: Go.Lib.decDigits code) rfl (by simp; omega) W
      clear hr hn hn0 ht hk h7 h6 HC hk0
      obtain ⟨Y, hY⟩ : ∃ Y, Y = Go.Lib.decDigits code := ⟨_, rfl⟩
      simp only [← hY] at q A1 ⊢
      clear hY
      go_enter Tryd.func47, Tryd.ntmps47
      go_wp2_with fail
      (with_reducible refine (q _).mono ?_)
      rintro e' w2 ⟨rfl, hw⟩
      subst hw
      go_wp2_with fail
      go_ret
      exact ⟨rfl, HK.out⟩
end Go.Proofs.YtpeldjihalldkaaDoor

