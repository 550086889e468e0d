/- Plain: digits of limbs, limbs of digits, digit by digit. No program in sight. -/
import Derived.Test.YtgjffkblhhkjmaaDoorDLimb
import Derived.Test.YtgjffkblhhkjmaaDoorDText
namespace Go.Proofs.YtgjffkblhhkjmaaDoor

theorem digN_front (j n : Nat) : digN (j + 1) n = dg (n / 10 ^ j) :: digN j n := by
  rw [Nat.add_comm, digN_add]
  rfl
/-- Digits, from the end on, ahead of them what is not written yet. -/
def outD (T j n : Nat) : List UInt8 := List.replicate (T - j) 0 ++ digN j n
theorem length_outD {T j : Nat} (n : Nat) (h : j ≤ T) : (outD T j n).length = T := by
  unfold outD
  rw [List.length_append, List.length_replicate, length_digN]
  omega
theorem outD_zero (T n : Nat) : outD T 0 n = List.replicate T 0 := by simp [outD, digN]
theorem outD_all (T n : Nat) : outD T T n = digN T n := by simp [outD]
theorem outD_set {T j : Nat} (n : Nat) (h : j < T) : (outD T j n).set (T - 1 - j) (dg (n / 10 ^ j)) = outD T (j + 1) n := by
  unfold outD
  rw [digN_front]
  have e : T - j = (T - (j + 1)) + 1 := by omega
  rw [e, List.replicate_succ', List.append_assoc]
  have hl : (List.replicate (T - (j + 1)) (0 : UInt8)).length = T - 1 - j := by rw [List.length_replicate]; omega
  rw [List.set_append_right _ _ (by omega), hl, Nat.sub_self]
  rfl
/-- The digits that a limb holds. -/
theorem val_chunk (l : List UInt8) (e : Nat) (he : e ≤ l.length) : val (l.take e) = val (l.take (e - 9)) * Bs + val ((l.take e).drop (e - 9)) := by
  have h : l.take e = l.take (e - 9) ++ (l.take e).drop (e - 9) := by
    have := List.take_append_drop (e - 9) (l.take e)
    rw [List.take_take, Nat.min_eq_left (by omega)] at this
    exact this.symm
  have h2 := congrArg val h
  rw [val_append] at h2
  rcases Nat.lt_or_ge e 9 with h9 | h9
  · have e0 : e - 9 = 0 := by omega
    rw [e0] at h2 ⊢
    simp [val_nil]
  · have hl : ((l.take e).drop (e - 9)).length = 9 := by rw [List.length_drop, List.length_take]; omega
    rw [hl] at h2
    exact h2
theorem chunk_lt {l : List UInt8} (hl : Digs l) (e : Nat) (he : e ≤ l.length) : val ((l.take e).drop (e - 9)) < Bs := by
  have h := val_lt _ ((hl.take e).drop (e - 9))
  have h2 : ((l.take e).drop (e - 9)).length ≤ 9 := by rw [List.length_drop, List.length_take]; omega
  exact Nat.lt_of_lt_of_le h (Nat.pow_le_pow_right (by decide) h2)
/-- Where the limbs of digits stand. -/
def NatI (l : List UInt8) (out : List Nat) (e : Nat) : Prop := Lims out ∧ e ≤ l.length ∧ lval out + Bs ^ out.length * val (l.take e) = val l
theorem NatI.start (l : List UInt8) : NatI l [] l.length := ⟨Lims.nil, Nat.le_refl _, by rw [List.take_length]; simp [lval]⟩
theorem NatI.next {l : List UInt8} {out : List Nat} {e : Nat} (hl : Digs l) (h : NatI l out e) : NatI l (out ++ [val ((l.take e).drop (e - 9))]) (e - 9) := by
  obtain ⟨h1, h2, h3⟩ := h
  refine ⟨h1.snoc (chunk_lt hl e h2), by omega, ?_⟩
  rw [val_chunk l e h2] at h3
  rw [lval_snoc, List.length_append, List.length_singleton, Nat.pow_succ, Nat.mul_assoc, Nat.mul_comm Bs]
  rw [Nat.mul_add] at h3
  omega
theorem NatI.done {l : List UInt8} {out : List Nat} (h : NatI l out 0) : lval out = val l := by
  have := h.2.2
  simpa [val_nil] using this
/-- Digits of one length are in the order of their numbers. -/
theorem less_val : ∀ (a b : List UInt8), Digs a → Digs b → a.length = b.length → (Go.Op.bytesLess a b = decide (val a < val b))
  | [], [], _, _, _ => by simp [Go.Op.bytesLess, val_nil]
  | [], _ :: _, _, _, h => by simp at h
  | _ :: _, [], _, _, h => by simp at h
  | x :: a, y :: b, ha, hb, h => by
    have hx := ha x (by simp)
    have hy := hb y (by simp)
    have hl : a.length = b.length := by simpa using h
    have da : Digs a := fun c hc => ha c (by simp [hc])
    have db : Digs b := fun c hc => hb c (by simp [hc])
    have ih := less_val a b da db hl
    have va := val_lt a da
    have vb := val_lt b db
    rw [hl] at va
    unfold Dig at hx hy
    rw [val_cons, val_cons, hl]
    unfold Go.Op.bytesLess
    rw [ih]
    generalize 10 ^ b.length = P at *
    rcases Nat.lt_trichotomy x.toNat y.toNat with h1 | h1 | h1
    · have e1 : decide (x < y) = true := decide_eq_true (UInt8.lt_iff_toNat_lt.2 h1)
      have e2 : (x.toNat - 48 + 1) * P ≤ (y.toNat - 48) * P := Nat.mul_le_mul_right _ (by omega)
      rw [Nat.add_mul] at e2
      rw [e1, Bool.true_or, eq_comm, decide_eq_true_iff]
      omega
    · have e0 : x = y := UInt8.toNat_inj.1 h1
      subst e0
      have e1 : decide (x < x) = false := decide_eq_false (by rw [UInt8.lt_iff_toNat_lt]; omega)
      rw [e1, Bool.false_or, beq_self_eq_true, Bool.true_and, decide_eq_decide]
      omega
    · have e1 : decide (x < y) = false := decide_eq_false (by rw [UInt8.lt_iff_toNat_lt]; omega)
      have e3 : (x == y) = false := by rw [beq_eq_false_iff_ne]; intro e; rw [e] at h1; omega
      have e2 : (y.toNat - 48 + 1) * P ≤ (x.toNat - 48) * P := Nat.mul_le_mul_right _ (by omega)
      rw [Nat.add_mul] at e2
      rw [e1, e3, Bool.false_or, Bool.false_and, eq_comm, decide_eq_false_iff_not]
      omega
end Go.Proofs.YtgjffkblhhkjmaaDoor
