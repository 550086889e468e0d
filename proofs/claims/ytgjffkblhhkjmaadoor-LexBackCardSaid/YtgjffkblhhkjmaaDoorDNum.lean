/- Plain: digits and numbers; limbs. No program in sight. -/
import Derived.WalkKit
namespace Go.Proofs.YtgjffkblhhkjmaaDoor

/-- A byte that is a digit. -/
def Dig (c : UInt8) : Prop := 48 ≤ c.toNat ∧ c.toNat ≤ 57
instance (c : UInt8) : Decidable (Dig c) := inferInstanceAs (Decidable (_ ∧ _))
def Digs (l : List UInt8) : Prop := ∀ c ∈ l, Dig c
instance (l : List UInt8) : Decidable (Digs l) := inferInstanceAs (Decidable (∀ c ∈ l, Dig c))
/-- The number that digits say. -/
def val (l : List UInt8) : Nat := l.foldl (fun a c => a * 10 + (c.toNat - 48)) 0
/-- The last digit of a number. -/
def dg (n : Nat) : UInt8 := UInt8.ofNat (48 + n % 10)
/-- The last k digits of a number. -/
def digN : Nat → Nat → List UInt8
  | 0, _ => []
  | k + 1, n => digN k (n / 10) ++ [dg n]
def dstrF : Nat → Nat → List UInt8
  | 0, _ => []
  | f + 1, n => if n = 0 then [] else dstrF f (n / 10) ++ [dg n]
/-- A number's digits, no nought ahead (of nought: none). -/
def dstr (n : Nat) : List UInt8 := dstrF n n

theorem Digs.nil : Digs [] := fun c h => by cases h
theorem Digs.append {a b : List UInt8} (ha : Digs a) (hb : Digs b) : Digs (a ++ b) := fun c h => (List.mem_append.1 h).elim (ha c) (hb c)
theorem Digs.left {a b : List UInt8} (h : Digs (a ++ b)) : Digs a := fun c hc => h c (List.mem_append.2 (.inl hc))
theorem Digs.right {a b : List UInt8} (h : Digs (a ++ b)) : Digs b := fun c hc => h c (List.mem_append.2 (.inr hc))
theorem Digs.take {l : List UInt8} (h : Digs l) (k : Nat) : Digs (l.take k) := fun c hc => h c (List.mem_of_mem_take hc)
theorem Digs.drop {l : List UInt8} (h : Digs l) (k : Nat) : Digs (l.drop k) := fun c hc => h c (List.mem_of_mem_drop hc)
theorem Digs.zeros (n : Nat) : Digs (List.replicate n 48) := fun c h => by rw [(List.mem_replicate.1 h).2]; decide
theorem val_nil : val [] = 0 := rfl
theorem foldl_val (l : List UInt8) : ∀ a, l.foldl (fun a c => a * 10 + (c.toNat - 48)) a = a * 10 ^ l.length + val l := by
  unfold val
  induction l with
  | nil => intro a; simp
  | cons c l ih =>
    intro a
    simp only [List.foldl_cons, List.length_cons]
    rw [ih (a * 10 + (c.toNat - 48)), ih (0 * 10 + (c.toNat - 48))]
    simp only [Nat.zero_mul, Nat.zero_add, Nat.add_mul, Nat.pow_succ]
    rw [Nat.mul_assoc, Nat.mul_comm 10]
    omega
theorem val_append (a b : List UInt8) : val (a ++ b) = val a * 10 ^ b.length + val b := by
  show (a ++ b).foldl _ 0 = _
  rw [List.foldl_append, foldl_val]
  rfl
theorem val_snoc (l : List UInt8) (c : UInt8) : val (l ++ [c]) = val l * 10 + (c.toNat - 48) := by
  rw [val_append]
  simp [val]
theorem val_cons (c : UInt8) (l : List UInt8) : val (c :: l) = (c.toNat - 48) * 10 ^ l.length + val l := by
  have := val_append [c] l
  rw [List.singleton_append] at this
  rw [this]
  simp [val]
theorem val_lt : ∀ l : List UInt8, Digs l → val l < 10 ^ l.length
  | [], _ => by decide
  | c :: l, h => by
    have h1 := val_lt l (fun x hx => h x (by simp [hx]))
    have h2 := h c (by simp)
    unfold Dig at h2
    rw [val_cons, List.length_cons, Nat.pow_succ]
    have : (c.toNat - 48) * 10 ^ l.length ≤ 9 * 10 ^ l.length := Nat.mul_le_mul_right _ (by omega)
    omega
theorem val_zeros (n : Nat) : val (List.replicate n 48) = 0 := by
  induction n with
  | zero => rfl
  | succ n ih =>
    rw [List.replicate_succ, val_cons, ih]
    simp
theorem dg_toNat (n : Nat) : (dg n).toNat = 48 + n % 10 := by
  unfold dg
  have : n % 10 < 10 := Nat.mod_lt _ (by decide)
  rw [UInt8.toNat_ofNat']
  omega
theorem dg_dig (n : Nat) : Dig (dg n) := by unfold Dig; rw [dg_toNat]; omega
theorem dg_of {c : UInt8} (h : Dig c) (n : Nat) (hn : n % 10 = c.toNat - 48) : dg n = c := by
  unfold Dig at h
  apply UInt8.toNat_inj.1
  rw [dg_toNat]
  omega
theorem length_digN : ∀ k n, (digN k n).length = k
  | 0, _ => rfl
  | k + 1, n => by rw [digN, List.length_append, length_digN k]; rfl
theorem digs_digN : ∀ k n, Digs (digN k n)
  | 0, _ => Digs.nil
  | k + 1, n => (digs_digN k _).append (fun c h => by rw [List.mem_singleton.1 h]; exact dg_dig n)
theorem val_digN : ∀ k n, val (digN k n) = n % 10 ^ k
  | 0, n => by simp [digN, val, Nat.mod_one]
  | k + 1, n => by
    rw [digN, val_snoc, val_digN k, dg_toNat, Nat.pow_succ, Nat.mul_comm (10 ^ k) 10, Nat.mod_mul]
    omega
theorem digN_val : ∀ (k : Nat) (l : List UInt8), Digs l → l.length = k → digN k (val l) = l
  | 0, l, _, h => by rw [List.eq_nil_of_length_eq_zero h]; rfl
  | k + 1, l, hd, h => by
    have hne : l ≠ [] := by intro e; rw [e] at h; cases h
    obtain ⟨m, c, rfl⟩ : ∃ m c, l = m ++ [c] := ⟨l.dropLast, l.getLast hne, (List.dropLast_concat_getLast hne).symm⟩
    have hc := hd.right c (by simp)
    have hc' := hc
    unfold Dig at hc'
    rw [digN, val_snoc]
    have e : (val m * 10 + (c.toNat - 48)) / 10 = val m := by omega
    rw [e, digN_val k m hd.left (by simpa using h), dg_of hc]
    omega
theorem digN_zeros (k : Nat) : digN k 0 = List.replicate k 48 := by
  have h := digN_val k (List.replicate k 48) (Digs.zeros k) (by simp)
  rwa [val_zeros] at h
theorem digN_mod (k n : Nat) : digN k (n % 10 ^ k) = digN k n := by
  have h := digN_val k (digN k n) (digs_digN k n) (length_digN k n)
  rwa [val_digN] at h
theorem digN_add (a b n : Nat) : digN (a + b) n = digN a (n / 10 ^ b) ++ digN b n := by
  induction b generalizing n with
  | zero => simp [digN]
  | succ b ih =>
    show digN (a + b) (n / 10) ++ [dg n] = _
    rw [ih, digN, Nat.div_div_eq_div_mul, Nat.pow_succ, Nat.mul_comm 10, List.append_assoc]
theorem dstrF_fuel : ∀ (f g n : Nat), n ≤ f → n ≤ g → dstrF f n = dstrF g n
  | 0, g, n, h, _ => by
    obtain rfl : n = 0 := by omega
    cases g <;> simp [dstrF]
  | f + 1, 0, n, _, h => by
    obtain rfl : n = 0 := by omega
    simp [dstrF]
  | f + 1, g + 1, n, h1, h2 => by
    by_cases h : n = 0
    · simp [dstrF, h]
    · simp only [dstrF, if_neg h]
      rw [dstrF_fuel f g (n / 10) (by omega) (by omega)]
theorem dstr_zero : dstr 0 = [] := rfl
theorem dstr_step {n : Nat} (h : n ≠ 0) : dstr n = dstr (n / 10) ++ [dg n] := by
  unfold dstr
  obtain ⟨m, rfl⟩ : ∃ m, n = m + 1 := ⟨n - 1, by omega⟩
  show (if m + 1 = 0 then [] else dstrF m ((m + 1) / 10) ++ [dg (m + 1)]) = _
  rw [if_neg h, dstrF_fuel m ((m + 1) / 10) _ (by omega) (by omega)]
theorem dstr_ind {P : Nat → Prop} (h0 : P 0) (h1 : ∀ n, n ≠ 0 → P (n / 10) → P n) (n : Nat) : P n := by
  induction n using Nat.strongRecOn with
  | ind n ih =>
    by_cases h : n = 0
    · rw [h]; exact h0
    · exact h1 n h (ih _ (by omega))
theorem digs_dstr : ∀ n, Digs (dstr n) := by
  refine dstr_ind Digs.nil ?_
  intro n h ih
  rw [dstr_step h]
  exact ih.append (fun c hc => by rw [List.mem_singleton.1 hc]; exact dg_dig n)
theorem val_dstr : ∀ n, val (dstr n) = n := by
  refine dstr_ind rfl ?_
  intro n h ih
  rw [dstr_step h, val_snoc, ih, dg_toNat]
  omega
theorem dstr_nil {n : Nat} : dstr n = [] ↔ n = 0 := by
  constructor
  · intro h
    have := congrArg val h
    rwa [val_dstr] at this
  · rintro rfl; rfl
theorem dstr_head : ∀ n, n ≠ 0 → ∃ c t, dstr n = c :: t ∧ c ≠ 48 := by
  refine dstr_ind (fun h => absurd rfl h) ?_
  intro n h ih _
  rw [dstr_step h]
  by_cases h2 : n / 10 = 0
  · rw [h2, dstr_zero]
    refine ⟨dg n, [], rfl, ?_⟩
    intro e
    have := congrArg UInt8.toNat e
    rw [dg_toNat] at this
    simp at this
    omega
  · obtain ⟨c, t, e, hc⟩ := ih h2
    rw [e]
    exact ⟨c, _, rfl, hc⟩
/-- Digits without the noughts ahead are the number's. -/
theorem dropZeros : ∀ l : List UInt8, Digs l → l.dropWhile (· == 48) = dstr (val l) := by
  have key : ∀ l : List UInt8, Digs l → (∀ c t, l = c :: t → c ≠ 48) → l = dstr (val l) := by
    intro l hd hh
    by_cases hne : l = []
    · rw [hne]; rfl
    · obtain ⟨c, t, rfl⟩ := List.exists_cons_of_ne_nil hne
      have hc := hd c (by simp)
      have hn : c ≠ 48 := hh c t rfl
      have hn' : c.toNat ≠ 48 := fun e => hn (UInt8.toNat_inj.1 e)
      unfold Dig at hc
      have h1 : digN (t.length + 1) (val (c :: t)) = c :: t := digN_val _ _ hd rfl
      have hv := val_cons c t
      have hlow : 10 ^ t.length ≤ val (c :: t) := by
        rw [hv]
        have : 1 * 10 ^ t.length ≤ (c.toNat - 48) * 10 ^ t.length := Nat.mul_le_mul_right _ (by omega)
        omega
      have hup := val_lt _ hd
      rw [List.length_cons] at hup
      have gen : ∀ (k n : Nat), 10 ^ k ≤ n → n < 10 ^ (k + 1) → digN (k + 1) n = dstr n := by
        intro k
        induction k with
        | zero =>
          intro n h2 h3
          rw [dstr_step (by omega)]
          have : n / 10 = 0 := by omega
          rw [this]
          rfl
        | succ k ih =>
          intro n h2 h3
          have hp : 0 < 10 ^ k := Nat.pow_pos (by decide)
          rw [Nat.pow_succ] at h2 h3
          rw [Nat.pow_succ] at h3
          rw [dstr_step (by omega), digN, ih (n / 10) (by omega) (by rw [Nat.pow_succ]; omega)]
      rw [← gen _ _ hlow hup, h1]
  intro l
  induction l with
  | nil => intro _; rfl
  | cons c t ih =>
    intro hd
    by_cases hc : c = 48
    · subst hc
      rw [List.dropWhile_cons_of_pos (by rfl), ih (fun x hx => hd x (by simp [hx])), val_cons]
      simp
    · rw [List.dropWhile_cons_of_neg (by simpa using hc)]
      exact key _ hd (fun c' t' e => by injection e with e; exact e ▸ hc)
theorem length_dstr_le {n k : Nat} (h : n < 10 ^ k) : (dstr n).length ≤ k := by
  rw [← Nat.mod_eq_of_lt h, ← val_digN, ← dropZeros _ (digs_digN k n)]
  exact Nat.le_trans (List.dropWhile_suffix _).length_le (Nat.le_of_eq (length_digN k n))
theorem lt_pow_dstr (n : Nat) : n < 10 ^ (dstr n).length := by
  have := val_lt _ (digs_dstr n)
  rwa [val_dstr] at this
theorem length_dstr_iff {n k : Nat} : (dstr n).length ≤ k ↔ n < 10 ^ k :=
  ⟨fun h => Nat.lt_of_lt_of_le (lt_pow_dstr n) (Nat.pow_le_pow_right (by decide) h), length_dstr_le⟩
theorem dstr_val {l : List UInt8} (hd : Digs l) (hh : ∀ c t, l = c :: t → c ≠ 48) : dstr (val l) = l := by
  rw [← dropZeros l hd]
  cases l with
  | nil => rfl
  | cons c t => rw [List.dropWhile_cons_of_neg (by simpa using hh c t rfl)]
/-- The digits in k places: noughts, and the number's. -/
theorem digN_dstr {n k : Nat} (h : n < 10 ^ k) : digN k n = List.replicate (k - (dstr n).length) 48 ++ dstr n := by
  have hl := length_dstr_le h
  have h2 := digN_val k (List.replicate (k - (dstr n).length) 48 ++ dstr n) ((Digs.zeros _).append (digs_dstr n)) (by rw [List.length_append, List.length_replicate]; omega)
  rw [val_append, val_zeros, val_dstr] at h2
  simpa using h2

/-- Limbs, the lowest first. -/
def Bs : Nat := 1000000000
def lval : List Nat → Nat
  | [] => 0
  | x :: l => x + Bs * lval l
def limbsF : Nat → Nat → List Nat
  | 0, _ => []
  | f + 1, n => if n = 0 then [] else n % Bs :: limbsF f (n / Bs)
/-- A number's limbs, no nought at the end. -/
def limbs (n : Nat) : List Nat := limbsF n n
def Lims (l : List Nat) : Prop := ∀ x ∈ l, x < Bs
theorem limbsF_fuel : ∀ (f g n : Nat), n ≤ f → n ≤ g → limbsF f n = limbsF g n
  | 0, g, n, h, _ => by
    obtain rfl : n = 0 := by omega
    cases g <;> simp [limbsF]
  | f + 1, 0, n, _, h => by
    obtain rfl : n = 0 := by omega
    simp [limbsF]
  | f + 1, g + 1, n, h1, h2 => by
    by_cases h : n = 0
    · simp [limbsF, h]
    · simp only [limbsF, if_neg h]
      have : n / Bs < n := Nat.div_lt_self (by omega) (by decide)
      rw [limbsF_fuel f g (n / Bs) (by omega) (by omega)]
theorem limbs_zero : limbs 0 = [] := rfl
theorem limbs_step {n : Nat} (h : n ≠ 0) : limbs n = n % Bs :: limbs (n / Bs) := by
  unfold limbs
  obtain ⟨m, rfl⟩ : ∃ m, n = m + 1 := ⟨n - 1, by omega⟩
  show (if m + 1 = 0 then [] else (m + 1) % Bs :: limbsF m ((m + 1) / Bs)) = _
  have : (m + 1) / Bs < m + 1 := Nat.div_lt_self (by omega) (by decide)
  rw [if_neg h, limbsF_fuel m ((m + 1) / Bs) _ (by omega) (by omega)]
theorem limbs_ind {P : Nat → Prop} (h0 : P 0) (h1 : ∀ n, n ≠ 0 → P (n / Bs) → P n) (n : Nat) : P n := by
  induction n using Nat.strongRecOn with
  | ind n ih =>
    by_cases h : n = 0
    · rw [h]; exact h0
    · exact h1 n h (ih _ (Nat.div_lt_self (by omega) (by decide)))
theorem lims_limbs : ∀ n, Lims (limbs n) := by
  refine limbs_ind (fun x h => by cases h) ?_
  intro n h ih x hx
  rw [limbs_step h] at hx
  rcases List.mem_cons.1 hx with rfl | hx
  · exact Nat.mod_lt _ (by decide)
  · exact ih x hx
theorem lval_limbs : ∀ n, lval (limbs n) = n := by
  refine limbs_ind rfl ?_
  intro n h ih
  rw [limbs_step h, lval, ih]
  exact Nat.mod_add_div n Bs
theorem lval_append (a b : List Nat) : lval (a ++ b) = lval a + Bs ^ a.length * lval b := by
  induction a with
  | nil => simp [lval]
  | cons x a ih =>
    rw [List.cons_append, lval, ih, lval, List.length_cons, Nat.pow_succ, Nat.mul_add, Nat.mul_comm (Bs ^ a.length) Bs, Nat.mul_assoc]
    omega
theorem lval_snoc (l : List Nat) (x : Nat) : lval (l ++ [x]) = lval l + Bs ^ l.length * x := by
  rw [lval_append]
  simp [lval]
theorem lval_lt : ∀ l, Lims l → lval l < Bs ^ l.length
  | [], _ => by decide
  | x :: l, h => by
    have h1 := lval_lt l (fun y hy => h y (by simp [hy]))
    have h2 := h x (by simp)
    rw [lval, List.length_cons, Nat.pow_succ, Nat.mul_comm (Bs ^ l.length)]
    have : Bs * (lval l + 1) ≤ Bs * Bs ^ l.length := Nat.mul_le_mul_left _ h1
    rw [Nat.mul_add] at this
    omega
/-- Limbs without noughts at the end are the number's. -/
theorem limbs_lval : ∀ l, Lims l → (∀ m, l ≠ m ++ [0]) → limbs (lval l) = l := by
  intro l
  induction l with
  | nil => intro _ _; rfl
  | cons x l ih =>
    intro h hz
    have hx := h x (by simp)
    have hB : 0 < Bs := by decide
    have e : lval (x :: l) % Bs = x := by
      rw [lval, Nat.add_mul_mod_self_left, Nat.mod_eq_of_lt hx]
    have e2 : lval (x :: l) / Bs = lval l := by
      rw [lval, Nat.add_mul_div_left _ _ hB, Nat.div_eq_of_lt hx]
      omega
    have i := ih (fun y hy => h y (by simp [hy])) (fun m e => hz (x :: m) (by rw [e]; rfl))
    have hne : lval (x :: l) ≠ 0 := by
      intro e0
      rw [lval] at e0
      have hx0 : x = 0 := by omega
      have hl0 : lval l = 0 := by
        rcases Nat.mul_eq_zero.1 (show Bs * lval l = 0 by omega) with h0 | h0
        · exact absurd h0 (by decide)
        · exact h0
      rw [hl0] at i
      have hl : l = [] := by rw [← i]; rfl
      subst hx0 hl
      exact hz [] rfl
    rw [limbs_step hne, e, e2, i]
theorem lval_zeros (n : Nat) : lval (List.replicate n 0) = 0 := by
  induction n with
  | zero => rfl
  | succ n ih => rw [List.replicate_succ, lval, ih]; rfl
theorem limbs_len {n k : Nat} (h : n < Bs ^ k) : (limbs n).length ≤ k := by
  rcases Nat.lt_or_ge k (limbs n).length with h1 | h1
  · exfalso
    have hne : limbs n ≠ [] := by intro e; rw [e] at h1; simp at h1
    have hsplit := (List.dropLast_concat_getLast hne)
    have hlast : (limbs n).getLast hne ≠ 0 := by
      have key : ∀ n, ∀ m, limbs n ≠ m ++ [0] := by
        refine limbs_ind (fun m e => by cases m <;> cases e) ?_
        intro n hn ih m e
        rw [limbs_step hn] at e
        cases m with
        | nil =>
          injection e with e1 e2
          have h0 : n / Bs = 0 := by have := congrArg lval e2; rwa [lval_limbs] at this
          have := Nat.mod_add_div n Bs
          rw [e1, h0] at this
          omega
        | cons y m =>
          injection e with e1 e2
          exact ih m e2
      intro e0
      rw [e0] at hsplit
      exact key n _ hsplit.symm
    have hv := lval_limbs n
    rw [← hsplit, lval_snoc] at hv
    have hlen : k ≤ (limbs n).dropLast.length := by rw [List.length_dropLast]; omega
    have : Bs ^ k ≤ Bs ^ (limbs n).dropLast.length := Nat.pow_le_pow_right (by decide) hlen
    have h2 : Bs ^ (limbs n).dropLast.length * 1 ≤ Bs ^ (limbs n).dropLast.length * (limbs n).getLast hne := Nat.mul_le_mul_left _ (by omega)
    omega
  · exact h1
theorem limbs_last (n : Nat) : ∀ m, limbs n ≠ m ++ [0] := by
  revert n
  refine limbs_ind (fun m e => by cases m <;> cases e) ?_
  intro n hn ih m e
  rw [limbs_step hn] at e
  cases m with
  | nil =>
    injection e with e1 e2
    have h0 : n / Bs = 0 := by have := congrArg lval e2; rwa [lval_limbs] at this
    have := Nat.mod_add_div n Bs
    rw [e1, h0] at this
    omega
  | cons y m =>
    injection e with e1 e2
    exact ih m e2
theorem limbs_mono {a b : Nat} (h : (limbs a).length < (limbs b).length) : a < b := by
  have h1 := lval_lt _ (lims_limbs a)
  rw [lval_limbs] at h1
  rcases Nat.lt_or_ge a b with h2 | h2
  · exact h2
  · have h3 := limbs_len (Nat.lt_of_le_of_lt h2 h1)
    omega
end Go.Proofs.YtgjffkblhhkjmaaDoor
