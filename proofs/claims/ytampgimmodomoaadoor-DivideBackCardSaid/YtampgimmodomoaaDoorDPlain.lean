/- Plain: digits and numbers; limbs. No program in sight. -/
import Derived.WalkKit
namespace Go.Proofs.YtampgimmodomoaaDoor

/-- A byte that is a digit. -/
def Dig (c : UInt8) : Prop := 48 ≤ c.toNat ∧ c.toNat ≤ 57
instance (c : UInt8) : Decidable (Dig c) := inferInstanceAs (Decidable (_ ∧ _))
def Digs (l : List UInt8) : Prop := ∀ c ∈ l, Dig c
instance (l : List UInt8) : Decidable (Digs l) := inferInstanceAs (Decidable (∀ c ∈ l, Dig c))
/-- The number that digits say. -/
def val (l : List UInt8) : Nat := l.foldl (fun a c => a * 10 + (c.toNat - 48)) 0
/-- The last digit of a number. -/
def dg (n : Nat) : UInt8 := UInt8.ofNat (48 + n % 10)
/-- The last k digits of a number. -/
def digN : Nat → Nat → List UInt8
  | 0, _ => []
  | k + 1, n => digN k (n / 10) ++ [dg n]
def dstrF : Nat → Nat → List UInt8
  | 0, _ => []
  | f + 1, n => if n = 0 then [] else dstrF f (n / 10) ++ [dg n]
/-- A number's digits, no nought ahead (of nought: none). -/
def dstr (n : Nat) : List UInt8 := dstrF n n

theorem Digs.nil : Digs [] := fun c h => by cases h
theorem Digs.append {a b : List UInt8} (ha : Digs a) (hb : Digs b) : Digs (a ++ b) := fun c h => (List.mem_append.1 h).elim (ha c) (hb c)
theorem Digs.left {a b : List UInt8} (h : Digs (a ++ b)) : Digs a := fun c hc => h c (List.mem_append.2 (.inl hc))
theorem Digs.right {a b : List UInt8} (h : Digs (a ++ b)) : Digs b := fun c hc => h c (List.mem_append.2 (.inr hc))
theorem Digs.take {l : List UInt8} (h : Digs l) (k : Nat) : Digs (l.take k) := fun c hc => h c (List.mem_of_mem_take hc)
theorem Digs.drop {l : List UInt8} (h : Digs l) (k : Nat) : Digs (l.drop k) := fun c hc => h c (List.mem_of_mem_drop hc)
theorem Digs.zeros (n : Nat) : Digs (List.replicate n 48) := fun c h => by rw [(List.mem_replicate.1 h).2]; decide
theorem val_nil : val [] = 0 := rfl
theorem foldl_val (l : List UInt8) : ∀ a, l.foldl (fun a c => a * 10 + (c.toNat - 48)) a = a * 10 ^ l.length + val l := by
  unfold val
  induction l with
  | nil => intro a; simp
  | cons c l ih =>
    intro a
    simp only [List.foldl_cons, List.length_cons]
    rw [ih (a * 10 + (c.toNat - 48)), ih (0 * 10 + (c.toNat - 48))]
    simp only [Nat.zero_mul, Nat.zero_add, Nat.add_mul, Nat.pow_succ]
    rw [Nat.mul_assoc, Nat.mul_comm 10]
    omega
theorem val_append (a b : List UInt8) : val (a ++ b) = val a * 10 ^ b.length + val b := by
  show (a ++ b).foldl _ 0 = _
  rw [List.foldl_append, foldl_val]
  rfl
theorem val_snoc (l : List UInt8) (c : UInt8) : val (l ++ [c]) = val l * 10 + (c.toNat - 48) := by
  rw [val_append]
  simp [val]
theorem val_cons (c : UInt8) (l : List UInt8) : val (c :: l) = (c.toNat - 48) * 10 ^ l.length + val l := by
  have := val_append [c] l
  rw [List.singleton_append] at this
  rw [this]
  simp [val]
theorem val_lt : ∀ l : List UInt8, Digs l → val l < 10 ^ l.length
  | [], _ => by decide
  | c :: l, h => by
    have h1 := val_lt l (fun x hx => h x (by simp [hx]))
    have h2 := h c (by simp)
    unfold Dig at h2
    rw [val_cons, List.length_cons, Nat.pow_succ]
    have : (c.toNat - 48) * 10 ^ l.length ≤ 9 * 10 ^ l.length := Nat.mul_le_mul_right _ (by omega)
    omega
theorem val_zeros (n : Nat) : val (List.replicate n 48) = 0 := by
  induction n with
  | zero => rfl
  | succ n ih =>
    rw [List.replicate_succ, val_cons, ih]
    simp
theorem dg_toNat (n : Nat) : (dg n).toNat = 48 + n % 10 := by
  unfold dg
  have : n % 10 < 10 := Nat.mod_lt _ (by decide)
  rw [UInt8.toNat_ofNat']
  omega
theorem dg_dig (n : Nat) : Dig (dg n) := by unfold Dig; rw [dg_toNat]; omega
theorem dg_of {c : UInt8} (h : Dig c) (n : Nat) (hn : n % 10 = c.toNat - 48) : dg n = c := by
  unfold Dig at h
  apply UInt8.toNat_inj.1
  rw [dg_toNat]
  omega
theorem length_digN : ∀ k n, (digN k n).length = k
  | 0, _ => rfl
  | k + 1, n => by rw [digN, List.length_append, length_digN k]; rfl
theorem digs_digN : ∀ k n, Digs (digN k n)
  | 0, _ => Digs.nil
  | k + 1, n => (digs_digN k _).append (fun c h => by rw [List.mem_singleton.1 h]; exact dg_dig n)
theorem val_digN : ∀ k n, val (digN k n) = n % 10 ^ k
  | 0, n => by simp [digN, val, Nat.mod_one]
  | k + 1, n => by
    rw [digN, val_snoc, val_digN k, dg_toNat, Nat.pow_succ, Nat.mul_comm (10 ^ k) 10, Nat.mod_mul]
    omega
theorem digN_val : ∀ (k : Nat) (l : List UInt8), Digs l → l.length = k → digN k (val l) = l
  | 0, l, _, h => by rw [List.eq_nil_of_length_eq_zero h]; rfl
  | k + 1, l, hd, h => by
    have hne : l ≠ [] := by intro e; rw [e] at h; cases h
    obtain ⟨m, c, rfl⟩ : ∃ m c, l = m ++ [c] := ⟨l.dropLast, l.getLast hne, (List.dropLast_concat_getLast hne).symm⟩
    have hc := hd.right c (by simp)
    have hc' := hc
    unfold Dig at hc'
    rw [digN, val_snoc]
    have e : (val m * 10 + (c.toNat - 48)) / 10 = val m := by omega
    rw [e, digN_val k m hd.left (by simpa using h), dg_of hc]
    omega
theorem digN_zeros (k : Nat) : digN k 0 = List.replicate k 48 := by
  have h := digN_val k (List.replicate k 48) (Digs.zeros k) (by simp)
  rwa [val_zeros] at h
theorem digN_mod (k n : Nat) : digN k (n % 10 ^ k) = digN k n := by
  have h := digN_val k (digN k n) (digs_digN k n) (length_digN k n)
  rwa [val_digN] at h
theorem digN_add (a b n : Nat) : digN (a + b) n = digN a (n / 10 ^ b) ++ digN b n := by
  induction b generalizing n with
  | zero => simp [digN]
  | succ b ih =>
    show digN (a + b) (n / 10) ++ [dg n] = _
    rw [ih, digN, Nat.div_div_eq_div_mul, Nat.pow_succ, Nat.mul_comm 10, List.append_assoc]
theorem dstrF_fuel : ∀ (f g n : Nat), n ≤ f → n ≤ g → dstrF f n = dstrF g n
  | 0, g, n, h, _ => by
    obtain rfl : n = 0 := by omega
    cases g <;> simp [dstrF]
  | f + 1, 0, n, _, h => by
    obtain rfl : n = 0 := by omega
    simp [dstrF]
  | f + 1, g + 1, n, h1, h2 => by
    by_cases h : n = 0
    · simp [dstrF, h]
    · simp only [dstrF, if_neg h]
      rw [dstrF_fuel f g (n / 10) (by omega) (by omega)]
theorem dstr_zero : dstr 0 = [] := rfl
theorem dstr_step {n : Nat} (h : n ≠ 0) : dstr n = dstr (n / 10) ++ [dg n] := by
  unfold dstr
  obtain ⟨m, rfl⟩ : ∃ m, n = m + 1 := ⟨n - 1, by omega⟩
  show (if m + 1 = 0 then [] else dstrF m ((m + 1) / 10) ++ [dg (m + 1)]) = _
  rw [if_neg h, dstrF_fuel m ((m + 1) / 10) _ (by omega) (by omega)]
theorem dstr_ind {P : Nat → Prop} (h0 : P 0) (h1 : ∀ n, n ≠ 0 → P (n / 10) → P n) (n : Nat) : P n := by
  induction n using Nat.strongRecOn with
  | ind n ih =>
    by_cases h : n = 0
    · rw [h]; exact h0
    · exact h1 n h (ih _ (by omega))
theorem digs_dstr : ∀ n, Digs (dstr n) := by
  refine dstr_ind Digs.nil ?_
  intro n h ih
  rw [dstr_step h]
  exact ih.append (fun c hc => by rw [List.mem_singleton.1 hc]; exact dg_dig n)
theorem val_dstr : ∀ n, val (dstr n) = n := by
  refine dstr_ind rfl ?_
  intro n h ih
  rw [dstr_step h, val_snoc, ih, dg_toNat]
  omega
theorem dstr_nil {n : Nat} : dstr n = [] ↔ n = 0 := by
  constructor
  · intro h
    have := congrArg val h
    rwa [val_dstr] at this
  · rintro rfl; rfl
theorem dstr_head : ∀ n, n ≠ 0 → ∃ c t, dstr n = c :: t ∧ c ≠ 48 := by
  refine dstr_ind (fun h => absurd rfl h) ?_
  intro n h ih _
  rw [dstr_step h]
  by_cases h2 : n / 10 = 0
  · rw [h2, dstr_zero]
    refine ⟨dg n, [], rfl, ?_⟩
    intro e
    have := congrArg UInt8.toNat e
    rw [dg_toNat] at this
    simp at this
    omega
  · obtain ⟨c, t, e, hc⟩ := ih h2
    rw [e]
    exact ⟨c, _, rfl, hc⟩
/-- Digits without the noughts ahead are the number's. -/
theorem dropZeros : ∀ l : List UInt8, Digs l → l.dropWhile (· == 48) = dstr (val l) := by
  have key : ∀ l : List UInt8, Digs l → (∀ c t, l = c :: t → c ≠ 48) → l = dstr (val l) := by
    intro l hd hh
    by_cases hne : l = []
    · rw [hne]; rfl
    · obtain ⟨c, t, rfl⟩ := List.exists_cons_of_ne_nil hne
      have hc := hd c (by simp)
      have hn : c ≠ 48 := hh c t rfl
      have hn' : c.toNat ≠ 48 := fun e => hn (UInt8.toNat_inj.1 e)
      unfold Dig at hc
      have h1 : digN (t.length + 1) (val (c :: t)) = c :: t := digN_val _ _ hd rfl
      have hv := val_cons c t
      have hlow : 10 ^ t.length ≤ val (c :: t) := by
        rw [hv]
        have : 1 * 10 ^ t.length ≤ (c.toNat - 48) * 10 ^ t.length := Nat.mul_le_mul_right _ (by omega)
        omega
      have hup := val_lt _ hd
      rw [List.length_cons] at hup
      have gen : ∀ (k n : Nat), 10 ^ k ≤ n → n < 10 ^ (k + 1) → digN (k + 1) n = dstr n := by
        intro k
        induction k with
        | zero =>
          intro n h2 h3
          rw [dstr_step (by omega)]
          have : n / 10 = 0 := by omega
          rw [this]
          rfl
        | succ k ih =>
          intro n h2 h3
          have hp : 0 < 10 ^ k := Nat.pow_pos (by decide)
          rw [Nat.pow_succ] at h2 h3
          rw [Nat.pow_succ] at h3
          rw [dstr_step (by omega), digN, ih (n / 10) (by omega) (by rw [Nat.pow_succ]; omega)]
      rw [← gen _ _ hlow hup, h1]
  intro l
  induction l with
  | nil => intro _; rfl
  | cons c t ih =>
    intro hd
    by_cases hc : c = 48
    · subst hc
      rw [List.dropWhile_cons_of_pos (by rfl), ih (fun x hx => hd x (by simp [hx])), val_cons]
      simp
    · rw [List.dropWhile_cons_of_neg (by simpa using hc)]
      exact key _ hd (fun c' t' e => by injection e with e; exact e ▸ hc)
theorem length_dstr_le {n k : Nat} (h : n < 10 ^ k) : (dstr n).length ≤ k := by
  rw [← Nat.mod_eq_of_lt h, ← val_digN, ← dropZeros _ (digs_digN k n)]
  exact Nat.le_trans (List.dropWhile_suffix _).length_le (Nat.le_of_eq (length_digN k n))
theorem lt_pow_dstr (n : Nat) : n < 10 ^ (dstr n).length := by
  have := val_lt _ (digs_dstr n)
  rwa [val_dstr] at this
theorem length_dstr_iff {n k : Nat} : (dstr n).length ≤ k ↔ n < 10 ^ k :=
  ⟨fun h => Nat.lt_of_lt_of_le (lt_pow_dstr n) (Nat.pow_le_pow_right (by decide) h), length_dstr_le⟩
theorem dstr_val {l : List UInt8} (hd : Digs l) (hh : ∀ c t, l = c :: t → c ≠ 48) : dstr (val l) = l := by
  rw [← dropZeros l hd]
  cases l with
  | nil => rfl
  | cons c t => rw [List.dropWhile_cons_of_neg (by simpa using hh c t rfl)]
/-- The digits in k places: noughts, and the number's. -/
theorem digN_dstr {n k : Nat} (h : n < 10 ^ k) : digN k n = List.replicate (k - (dstr n).length) 48 ++ dstr n := by
  have hl := length_dstr_le h
  have h2 := digN_val k (List.replicate (k - (dstr n).length) 48 ++ dstr n) ((Digs.zeros _).append (digs_dstr n)) (by rw [List.length_append, List.length_replicate]; omega)
  rw [val_append, val_zeros, val_dstr] at h2
  simpa using h2

/-- Limbs, the lowest first. -/
def Bs : Nat := 1000000000
def lval : List Nat → Nat
  | [] => 0
  | x :: l => x + Bs * lval l
def limbsF : Nat → Nat → List Nat
  | 0, _ => []
  | f + 1, n => if n = 0 then [] else n % Bs :: limbsF f (n / Bs)
/-- A number's limbs, no nought at the end. -/
def limbs (n : Nat) : List Nat := limbsF n n
def Lims (l : List Nat) : Prop := ∀ x ∈ l, x < Bs
theorem limbsF_fuel : ∀ (f g n : Nat), n ≤ f → n ≤ g → limbsF f n = limbsF g n
  | 0, g, n, h, _ => by
    obtain rfl : n = 0 := by omega
    cases g <;> simp [limbsF]
  | f + 1, 0, n, _, h => by
    obtain rfl : n = 0 := by omega
    simp [limbsF]
  | f + 1, g + 1, n, h1, h2 => by
    by_cases h : n = 0
    · simp [limbsF, h]
    · simp only [limbsF, if_neg h]
      have : n / Bs < n := Nat.div_lt_self (by omega) (by decide)
      rw [limbsF_fuel f g (n / Bs) (by omega) (by omega)]
theorem limbs_zero : limbs 0 = [] := rfl
theorem limbs_step {n : Nat} (h : n ≠ 0) : limbs n = n % Bs :: limbs (n / Bs) := by
  unfold limbs
  obtain ⟨m, rfl⟩ : ∃ m, n = m + 1 := ⟨n - 1, by omega⟩
  show (if m + 1 = 0 then [] else (m + 1) % Bs :: limbsF m ((m + 1) / Bs)) = _
  have : (m + 1) / Bs < m + 1 := Nat.div_lt_self (by omega) (by decide)
  rw [if_neg h, limbsF_fuel m ((m + 1) / Bs) _ (by omega) (by omega)]
theorem limbs_ind {P : Nat → Prop} (h0 : P 0) (h1 : ∀ n, n ≠ 0 → P (n / Bs) → P n) (n : Nat) : P n := by
  induction n using Nat.strongRecOn with
  | ind n ih =>
    by_cases h : n = 0
    · rw [h]; exact h0
    · exact h1 n h (ih _ (Nat.div_lt_self (by omega) (by decide)))
theorem lims_limbs : ∀ n, Lims (limbs n) := by
  refine limbs_ind (fun x h => by cases h) ?_
  intro n h ih x hx
  rw [limbs_step h] at hx
  rcases List.mem_cons.1 hx with rfl | hx
  · exact Nat.mod_lt _ (by decide)
  · exact ih x hx
theorem lval_limbs : ∀ n, lval (limbs n) = n := by
  refine limbs_ind rfl ?_
  intro n h ih
  rw [limbs_step h, lval, ih]
  exact Nat.mod_add_div n Bs
theorem lval_append (a b : List Nat) : lval (a ++ b) = lval a + Bs ^ a.length * lval b := by
  induction a with
  | nil => simp [lval]
  | cons x a ih =>
    rw [List.cons_append, lval, ih, lval, List.length_cons, Nat.pow_succ, Nat.mul_add, Nat.mul_comm (Bs ^ a.length) Bs, Nat.mul_assoc]
    omega
theorem lval_snoc (l : List Nat) (x : Nat) : lval (l ++ [x]) = lval l + Bs ^ l.length * x := by
  rw [lval_append]
  simp [lval]
theorem lval_lt : ∀ l, Lims l → lval l < Bs ^ l.length
  | [], _ => by decide
  | x :: l, h => by
    have h1 := lval_lt l (fun y hy => h y (by simp [hy]))
    have h2 := h x (by simp)
    rw [lval, List.length_cons, Nat.pow_succ, Nat.mul_comm (Bs ^ l.length)]
    have : Bs * (lval l + 1) ≤ Bs * Bs ^ l.length := Nat.mul_le_mul_left _ h1
    rw [Nat.mul_add] at this
    omega
/-- Limbs without noughts at the end are the number's. -/
theorem limbs_lval : ∀ l, Lims l → (∀ m, l ≠ m ++ [0]) → limbs (lval l) = l := by
  intro l
  induction l with
  | nil => intro _ _; rfl
  | cons x l ih =>
    intro h hz
    have hx := h x (by simp)
    have hB : 0 < Bs := by decide
    have e : lval (x :: l) % Bs = x := by
      rw [lval, Nat.add_mul_mod_self_left, Nat.mod_eq_of_lt hx]
    have e2 : lval (x :: l) / Bs = lval l := by
      rw [lval, Nat.add_mul_div_left _ _ hB, Nat.div_eq_of_lt hx]
      omega
    have i := ih (fun y hy => h y (by simp [hy])) (fun m e => hz (x :: m) (by rw [e]; rfl))
    have hne : lval (x :: l) ≠ 0 := by
      intro e0
      rw [lval] at e0
      have hx0 : x = 0 := by omega
      have hl0 : lval l = 0 := by
        rcases Nat.mul_eq_zero.1 (show Bs * lval l = 0 by omega) with h0 | h0
        · exact absurd h0 (by decide)
        · exact h0
      rw [hl0] at i
      have hl : l = [] := by rw [← i]; rfl
      subst hx0 hl
      exact hz [] rfl
    rw [limbs_step hne, e, e2, i]
theorem lval_zeros (n : Nat) : lval (List.replicate n 0) = 0 := by
  induction n with
  | zero => rfl
  | succ n ih => rw [List.replicate_succ, lval, ih]; rfl
theorem limbs_len {n k : Nat} (h : n < Bs ^ k) : (limbs n).length ≤ k := by
  rcases Nat.lt_or_ge k (limbs n).length with h1 | h1
  · exfalso
    have hne : limbs n ≠ [] := by intro e; rw [e] at h1; simp at h1
    have hsplit := (List.dropLast_concat_getLast hne)
    have hlast : (limbs n).getLast hne ≠ 0 := by
      have key : ∀ n, ∀ m, limbs n ≠ m ++ [0] := by
        refine limbs_ind (fun m e => by cases m <;> cases e) ?_
        intro n hn ih m e
        rw [limbs_step hn] at e
        cases m with
        | nil =>
          injection e with e1 e2
          have h0 : n / Bs = 0 := by have := congrArg lval e2; rwa [lval_limbs] at this
          have := Nat.mod_add_div n Bs
          rw [e1, h0] at this
          omega
        | cons y m =>
          injection e with e1 e2
          exact ih m e2
      intro e0
      rw [e0] at hsplit
      exact key n _ hsplit.symm
    have hv := lval_limbs n
    rw [← hsplit, lval_snoc] at hv
    have hlen : k ≤ (limbs n).dropLast.length := by rw [List.length_dropLast]; omega
    have : Bs ^ k ≤ Bs ^ (limbs n).dropLast.length := Nat.pow_le_pow_right (by decide) hlen
    have h2 : Bs ^ (limbs n).dropLast.length * 1 ≤ Bs ^ (limbs n).dropLast.length * (limbs n).getLast hne := Nat.mul_le_mul_left _ (by omega)
    omega
  · exact h1
theorem limbs_last (n : Nat) : ∀ m, limbs n ≠ m ++ [0] := by
  revert n
  refine limbs_ind (fun m e => by cases m <;> cases e) ?_
  intro n hn ih m e
  rw [limbs_step hn] at e
  cases m with
  | nil =>
    injection e with e1 e2
    have h0 : n / Bs = 0 := by have := congrArg lval e2; rwa [lval_limbs] at this
    have := Nat.mod_add_div n Bs
    rw [e1, h0] at this
    omega
  | cons y m =>
    injection e with e1 e2
    exact ih m e2
theorem limbs_mono {a b : Nat} (h : (limbs a).length < (limbs b).length) : a < b := by
  have h1 := lval_lt _ (lims_limbs a)
  rw [lval_limbs] at h1
  rcases Nat.lt_or_ge a b with h2 | h2
  · exact h2
  · have h3 := limbs_len (Nat.lt_of_le_of_lt h2 h1)
    omega
end Go.Proofs.YtampgimmodomoaaDoor

/- Plain: sums, differences and products of limbs, as the loops make them. No program in sight. -/
namespace Go.Proofs.YtampgimmodomoaaDoor

def lim (l : List Nat) (i : Nat) : Nat := l.getD i 0
theorem lim_lt {l : List Nat} (h : Lims l) (i : Nat) : lim l i < Bs := by
  unfold lim
  rw [List.getD_eq_getElem?_getD]
  rcases Nat.lt_or_ge i l.length with hi | hi
  · rw [List.getElem?_eq_getElem hi]
    exact h _ (List.getElem_mem hi)
  · rw [List.getElem?_eq_none hi]
    decide
theorem lval_take_succ (l : List Nat) (i : Nat) : lval (l.take (i + 1)) = lval (l.take i) + Bs ^ i * lim l i := by
  unfold lim
  rcases Nat.lt_or_ge i l.length with hi | hi
  · rw [← List.take_append_getElem hi, lval_snoc, List.length_take, Nat.min_eq_left (by omega), List.getD_eq_getElem?_getD, List.getElem?_eq_getElem hi]
    rfl
  · rw [List.take_of_length_le (by omega), List.take_of_length_le (by omega), List.getD_eq_getElem?_getD, List.getElem?_eq_none hi]
    simp
theorem Lims.snoc {l : List Nat} (h : Lims l) {x : Nat} (hx : x < Bs) : Lims (l ++ [x]) := fun y hy => by
  rcases List.mem_append.1 hy with hy | hy
  · exact h y hy
  · rw [List.mem_singleton.1 hy]; exact hx
theorem Lims.nil : Lims [] := fun x h => by cases h
theorem Lims.take {l : List Nat} (h : Lims l) (k : Nat) : Lims (l.take k) := fun x hx => h x (List.mem_of_mem_take hx)
/-- Where a sum stands. -/
def PlusI (n m out : List Nat) (carry i : Nat) : Prop := out.length = i ∧ Lims out ∧ carry ≤ 1 ∧ lval out + Bs ^ i * carry = lval (n.take i) + lval (m.take i)
theorem PlusI.start (n m : List Nat) : PlusI n m [] 0 0 := ⟨rfl, Lims.nil, by omega, by simp [lval]⟩
theorem PlusI.next {n m out : List Nat} {carry i x : Nat} (hn : Lims n) (hm : Lims m) (h : PlusI n m out carry i) (hx : x = lim n i + lim m i + carry) : PlusI n m (out ++ [x % Bs]) (x / Bs) (i + 1) := by
  obtain ⟨h1, h2, h3, h4⟩ := h
  have b1 := lim_lt hn i
  have b2 := lim_lt hm i
  have hB : 0 < Bs := by decide
  refine ⟨by rw [List.length_append, h1]; rfl, h2.snoc (Nat.mod_lt _ hB), ?_, ?_⟩
  · unfold Bs at *
    omega
  · rw [lval_snoc, h1, lval_take_succ, lval_take_succ, Nat.pow_succ]
    have e := Nat.mod_add_div x Bs
    have e2 : Bs ^ i * (x % Bs) + Bs ^ i * Bs * (x / Bs) = Bs ^ i * (lim n i) + Bs ^ i * (lim m i) + Bs ^ i * carry := by
      rw [Nat.mul_assoc, ← Nat.mul_add, e, hx, Nat.mul_add, Nat.mul_add]
    omega
theorem PlusI.done {n m out : List Nat} {carry i : Nat} (h : PlusI n m out carry i) (h1 : n.length ≤ i) (h2 : m.length ≤ i) : Lims (out ++ [carry]) ∧ lval (out ++ [carry]) = lval n + lval m := by
  obtain ⟨a1, a2, a3, a4⟩ := h
  rw [List.take_of_length_le h1, List.take_of_length_le h2] at a4
  refine ⟨a2.snoc (by unfold Bs; omega), ?_⟩
  rw [lval_snoc, a1]
  exact a4
def MinusI (n m out : List Nat) (borrow i : Nat) : Prop := out.length = i ∧ Lims out ∧ borrow ≤ 1 ∧ lval out + lval (m.take i) = lval (n.take i) + Bs ^ i * borrow
theorem MinusI.start (n m : List Nat) : MinusI n m [] 0 0 := ⟨rfl, Lims.nil, by omega, by simp [lval]⟩
theorem MinusI.next {n m out : List Nat} {borrow i x : Nat} (hn : Lims n) (hm : Lims m) (h : MinusI n m out borrow i) (hx : x + lim m i + borrow = lim n i + Bs) : MinusI n m (out ++ [x % Bs]) (1 - x / Bs) (i + 1) := by
  obtain ⟨h1, h2, h3, h4⟩ := h
  have b1 := lim_lt hn i
  have b2 := lim_lt hm i
  have hB : 0 < Bs := by decide
  refine ⟨by rw [List.length_append, h1]; rfl, h2.snoc (Nat.mod_lt _ hB), Nat.sub_le _ _, ?_⟩
  rw [lval_snoc, h1, lval_take_succ, lval_take_succ, Nat.pow_succ]
  have e := Nat.mod_add_div x Bs
  have hq : x / Bs ≤ 1 := by unfold Bs at *; omega
  have e2 : Bs ^ i * (x % Bs) + Bs ^ i * lim m i + Bs ^ i * borrow = Bs ^ i * lim n i + Bs ^ i * Bs * (1 - x / Bs) := by
    rw [Nat.mul_assoc, ← Nat.mul_add, ← Nat.mul_add, ← Nat.mul_add]
    congr 1
    rcases Nat.le_one_iff_eq_zero_or_eq_one.1 hq with hz | hz <;> rw [hz] at e ⊢ <;> omega
  omega
theorem MinusI.done {n m out : List Nat} {borrow i : Nat} (h : MinusI n m out borrow i) (h1 : n.length ≤ i) (h2 : m.length ≤ i) (hle : lval m ≤ lval n) : lval out = lval n - lval m := by
  obtain ⟨a1, a2, a3, a4⟩ := h
  rw [List.take_of_length_le h1, List.take_of_length_le h2] at a4
  have hlt := lval_lt out a2
  rw [a1] at hlt
  rcases (show borrow = 0 ∨ borrow = 1 from by omega) with rfl | rfl <;> omega
/-- A number put in a place. -/
theorem lval_set (l : List Nat) (i v : Nat) (h : i < l.length) : lval (l.set i v) + Bs ^ i * lim l i = lval l + Bs ^ i * v := by
  have e1 : l = l.take i ++ (l[i] :: l.drop (i + 1)) := by rw [← List.drop_eq_getElem_cons h, List.take_append_drop]
  have e2 : l.set i v = l.take i ++ (v :: l.drop (i + 1)) := by rw [List.set_eq_take_append_cons_drop, if_pos h]
  have e3 : lim l i = l[i] := by unfold lim; rw [List.getD_eq_getElem?_getD, List.getElem?_eq_getElem h]; rfl
  have hl : (l.take i).length = i := by rw [List.length_take]; omega
  have f1 : lval l = lval (l.take i) + Bs ^ i * (l[i] + Bs * lval (l.drop (i + 1))) := by
    conv => lhs; rw [e1]
    rw [lval_append, hl]
    rfl
  have f2 : lval (l.set i v) = lval (l.take i) + Bs ^ i * (v + Bs * lval (l.drop (i + 1))) := by
    rw [e2, lval_append, hl]
    rfl
  rw [f1, f2, e3, Nat.mul_add, Nat.mul_add]
  omega
theorem lim_set (l : List Nat) (i j v : Nat) (h : i < l.length) : lim (l.set i v) j = if j = i then v else lim l j := by
  unfold lim
  rw [List.getD_eq_getElem?_getD, List.getElem?_set]
  by_cases e : i = j
  · rw [if_pos e, if_pos (show j = i from e.symm), if_pos h]
    rfl
  · rw [if_neg e, if_neg (fun h => e h.symm), List.getD_eq_getElem?_getD]
theorem Lims.set {l : List Nat} (h : Lims l) {x : Nat} (hx : x < Bs) (i : Nat) : Lims (l.set i x) := fun y hy => by
  rcases List.mem_or_eq_of_mem_set hy with hy | rfl
  · exact h y hy
  · exact hx
/-- Where a product stands, inside a row: out0 is what stood there before the row. -/
def RowI (m out0 out : List Nat) (x i carry k : Nat) : Prop :=
  out.length = out0.length ∧ Lims out ∧ carry < Bs ∧ lval out + Bs ^ (i + k) * carry = lval out0 + Bs ^ i * (x * lval (m.take k)) ∧ (∀ j, i + k ≤ j → lim out j = lim out0 j)
theorem RowI.start {out0 : List Nat} (h : Lims out0) (m : List Nat) (x i : Nat) : RowI m out0 out0 x i 0 0 := ⟨rfl, h, by decide, by simp [lval], fun _ _ => rfl⟩
theorem RowI.next {m out0 out : List Nat} {x i carry k y : Nat} (hm : Lims m) (hx : x < Bs) (h0 : i + k < out0.length) (h : RowI m out0 out x i carry k) (hy : y = lim out (i + k) + x * lim m k + carry) :
    RowI m out0 (out.set (i + k) (y % Bs)) x i (y / Bs) (k + 1) ∧ y < Bs * Bs := by
  obtain ⟨h1, h2, h3, h4, h5⟩ := h
  have b1 := lim_lt hm k
  have b2 := lim_lt h2 (i + k)
  have hB : 0 < Bs := by decide
  have hp : x * lim m k ≤ (Bs - 1) * (Bs - 1) := Nat.mul_le_mul (by omega) (by omega)
  have hyl : y < Bs * Bs := by
    have : (Bs - 1) * (Bs - 1) + 2 * (Bs - 1) < Bs * Bs := by decide
    omega
  refine ⟨⟨by rw [List.length_set]; exact h1, h2.set (Nat.mod_lt _ hB) _, Nat.div_lt_of_lt_mul hyl, ?_, ?_⟩, hyl⟩
  · have e1 := lval_set out (i + k) (y % Bs) (by omega)
    have e2 := Nat.mod_add_div y Bs
    have e3 : Bs ^ (i + k) * (y % Bs) + Bs ^ (i + (k + 1)) * (y / Bs) = Bs ^ (i + k) * lim out (i + k) + Bs ^ (i + k) * (x * lim m k) + Bs ^ (i + k) * carry := by
      rw [← Nat.add_assoc, Nat.pow_succ, Nat.mul_assoc, ← Nat.mul_add, e2, hy, Nat.mul_add, Nat.mul_add]
    have e4 : Bs ^ i * (x * lval (m.take (k + 1))) = Bs ^ i * (x * lval (m.take k)) + Bs ^ (i + k) * (x * lim m k) := by
      rw [lval_take_succ, Nat.pow_add]
      grind
    rw [e4]
    omega
  · intro j hj
    rw [lim_set _ _ _ _ (by omega), if_neg (by omega)]
    exact h5 j (by omega)
/-- Where a product stands, between rows. -/
def TimesI (n m out : List Nat) (i : Nat) : Prop := out.length = n.length + m.length + 1 ∧ Lims out ∧ lval out = lval (n.take i) * lval m ∧ ∀ j, i + m.length ≤ j → lim out j = 0
theorem TimesI.start (n m : List Nat) : TimesI n m (List.replicate (n.length + m.length + 1) 0) 0 :=
  ⟨by simp, fun x hx => by rw [(List.mem_replicate.1 hx).2]; decide, by rw [lval_zeros]; simp [lval], fun j _ => by
    unfold lim
    rw [List.getD_eq_getElem?_getD, List.getElem?_replicate]
    split <;> rfl⟩
theorem TimesI.next {n m out0 out : List Nat} {i carry : Nat} (h : TimesI n m out0 i) (hr : RowI m out0 out (lim n i) i carry (m.length + 1)) (hc : carry = 0) : TimesI n m out (i + 1) := by
  obtain ⟨h1, h2, h3, h4⟩ := h
  obtain ⟨r1, r2, _, r4, r5⟩ := hr
  subst hc
  refine ⟨by rw [r1]; exact h1, r2, ?_, fun j hj => ?_⟩
  · rw [List.take_of_length_le (show m.length ≤ m.length + 1 by omega), Nat.mul_zero, Nat.add_zero] at r4
    rw [r4, h3, lval_take_succ, Nat.add_mul, Nat.mul_assoc]
  · rw [r5 j (by omega)]
    exact h4 j (by omega)
/-- The last carry of a row is none. -/
theorem row_carry {n m out0 out : List Nat} {i x carry y : Nat} (h : TimesI n m out0 i) (hr : RowI m out0 out x i carry m.length) (hy : y = lim out (i + m.length) + x * lim m m.length + carry) : y / Bs = 0 := by
  obtain ⟨_, _, r3, _, r5⟩ := hr
  have e1 : lim out (i + m.length) = 0 := by rw [r5 _ (Nat.le_refl _)]; exact h.2.2.2 _ (Nat.le_refl _)
  have e2 : lim m m.length = 0 := by unfold lim; rw [List.getD_eq_getElem?_getD, List.getElem?_eq_none (Nat.le_refl _)]; rfl
  rw [hy, e1, e2]
  exact Nat.div_eq_of_lt (by omega)
theorem TimesI.done {n m out : List Nat} {i : Nat} (h : TimesI n m out i) (hi : n.length ≤ i) : Lims out ∧ lval out = lval n * lval m := by
  obtain ⟨_, h2, h3, _⟩ := h
  rw [List.take_of_length_le hi] at h3
  exact ⟨h2, h3⟩
/-- Which number is the greater, by their limbs: the loop from the end. -/
theorem lval_cmp {a b : List Nat} (ha : Lims a) (hl : a.length = b.length) (k : Nat) (hk : k < a.length) (hs : ∀ j, k < j → lim a j = lim b j) (hlt : lim a k < lim b k) : lval a < lval b := by
  have key : ∀ (j : Nat), k + 1 + j ≤ a.length → lval (a.take (k + 1 + j)) < lval (b.take (k + 1 + j)) := by
    intro j
    induction j with
    | zero =>
      intro _
      rw [Nat.add_zero, lval_take_succ, lval_take_succ]
      have h1 := lval_lt _ (ha.take k)
      rw [List.length_take, Nat.min_eq_left (by omega)] at h1
      have : Bs ^ k * (lim a k + 1) ≤ Bs ^ k * lim b k := Nat.mul_le_mul_left _ hlt
      rw [Nat.mul_add] at this
      omega
    | succ j ih =>
      intro h
      have := ih (by omega)
      rw [show k + 1 + (j + 1) = (k + 1 + j) + 1 by omega, lval_take_succ, lval_take_succ, hs (k + 1 + j) (by omega)]
      omega
  have := key (a.length - (k + 1)) (by omega)
  rw [show k + 1 + (a.length - (k + 1)) = a.length by omega] at this
  rwa [List.take_length, hl, List.take_length] at this
theorem lim_ext {a b : List Nat} (hl : a.length = b.length) (h : ∀ j, lim a j = lim b j) : a = b := by
  apply List.ext_getElem hl
  intro i h1 h2
  have := h i
  unfold lim at this
  rwa [List.getD_eq_getElem?_getD, List.getD_eq_getElem?_getD, List.getElem?_eq_getElem h1, List.getElem?_eq_getElem h2] at this
/-- What cmp answers. -/
def cmpN (a b : Nat) : Int := if (limbs a).length ≠ (limbs b).length then ((limbs a).length : Int) - (limbs b).length else if a < b then -1 else if b < a then 1 else 0
theorem cmpN_sign (a b : Nat) : (cmpN a b < 0 ↔ a < b) ∧ (0 < cmpN a b ↔ b < a) := by
  unfold cmpN
  by_cases h : (limbs a).length ≠ (limbs b).length
  · rw [if_pos h]
    rcases Nat.lt_or_ge (limbs a).length (limbs b).length with h1 | h1
    · have := limbs_mono h1
      omega
    · have := limbs_mono (a := b) (b := a) (by omega)
      omega
  · rw [if_neg h]
    rcases Nat.lt_trichotomy a b with h1 | h1 | h1
    · rw [if_pos h1]; omega
    · rw [if_neg (by omega), if_neg (by omega)]; omega
    · rw [if_neg (by omega), if_pos h1]; omega
/-- Digits of limbs. -/
theorem digN_limb (l : List Nat) (hl : Lims l) (i k : Nat) (hk : k < 9) : (lval l / 10 ^ (i * 9 + k)) % 10 = (lim l i / 10 ^ k) % 10 := by
  have hB : Bs = 10 ^ 9 := by decide
  have e1 : lval l / 10 ^ (i * 9) = lim l i + Bs * lval (l.drop (i + 1)) ∨ (l.length ≤ i ∧ lval l / 10 ^ (i * 9) = 0) := by
    have hp : 10 ^ (i * 9) = Bs ^ i := by rw [hB, ← Nat.pow_mul, Nat.mul_comm]
    have h1 := lval_lt _ (hl.take i)
    rcases Nat.lt_or_ge i l.length with hi | hi
    · left
      have e : l = l.take i ++ (l[i] :: l.drop (i + 1)) := by rw [← List.drop_eq_getElem_cons hi, List.take_append_drop]
      have hlen : (l.take i).length = i := by rw [List.length_take]; omega
      have e3 : lim l i = l[i] := by unfold lim; rw [List.getD_eq_getElem?_getD, List.getElem?_eq_getElem hi]; rfl
      rw [hlen] at h1
      have f1 : lval l = lval (l.take i) + Bs ^ i * (l[i] + Bs * lval (l.drop (i + 1))) := by
        conv => lhs; rw [e]
        rw [lval_append, hlen]
        rfl
      rw [hp, f1, Nat.add_mul_div_left _ _ (Nat.pow_pos (by decide)), Nat.div_eq_of_lt h1, e3]
      omega
    · right
      rw [List.take_of_length_le hi] at h1
      exact ⟨hi, by rw [hp]; exact Nat.div_eq_of_lt (Nat.lt_of_lt_of_le h1 (Nat.pow_le_pow_right (by decide) hi))⟩
  rw [Nat.pow_add, ← Nat.div_div_eq_div_mul]
  have hdk : Bs = 10 ^ k * (10 * 10 ^ (8 - k)) := by
    rw [hB, ← Nat.mul_assoc, Nat.mul_comm (10 ^ k), Nat.mul_assoc, ← Nat.pow_add]
    rw [show k + (8 - k) = 8 by omega]
  rcases e1 with e1 | ⟨h1, e1⟩
  · rw [e1]
    have : Bs * lval (l.drop (i + 1)) = 10 ^ k * (10 * 10 ^ (8 - k) * lval (l.drop (i + 1))) := by
      rw [← Nat.mul_assoc, ← hdk]
    rw [this, Nat.add_mul_div_left _ _ (Nat.pow_pos (by decide)), Nat.mul_assoc, Nat.add_mul_mod_self_left]
  · rw [e1]
    have : lim l i = 0 := by unfold lim; rw [List.getD_eq_getElem?_getD, List.getElem?_eq_none h1]; rfl
    rw [this]
end Go.Proofs.YtampgimmodomoaaDoor

/- Plain: decimals in their one form, and what is done with them. No program in sight. -/
namespace Go.Proofs.YtampgimmodomoaaDoor

/-- A decimal: its sign, the number of its digits, how many stand behind the point. -/
structure Dc where
  neg : Bool
  n : Nat
  s : Nat
/-- Without noughts at the end, behind the point. -/
def redN : Nat → Nat → Nat × Nat
  | n, 0 => (n, 0)
  | n, s + 1 => if n ≠ 0 ∧ n % 10 = 0 then redN (n / 10) s else (n, s + 1)
def topN : Nat := 10 ^ 60
def norm (neg : Bool) (n s : Nat) : Option Dc :=
  if n = 0 then some ⟨false, 0, 0⟩ else if topN ≤ (redN n s).1 ∨ 60 < (redN n s).2 then none else some ⟨neg, (redN n s).1, (redN n s).2⟩
/-- A decimal that may be. -/
def Ok (d : Dc) : Prop := d.n < topN ∧ d.s ≤ 60 ∧ (d.n = 0 → d.s = 0 ∧ d.neg = false) ∧ (d.s = 0 ∨ d.n % 10 ≠ 0)
def Dc.z (d : Dc) : Int := if d.neg then -(d.n : Int) else d.n
/-- The decimal of a whole number and a scale. -/
def normZ (z : Int) (s : Nat) : Option Dc := norm (decide (z < 0)) z.natAbs s
def addD (a b : Dc) : Option Dc := normZ (a.z * 10 ^ b.s + b.z * 10 ^ a.s) (a.s + b.s)
def subD (a b : Dc) : Option Dc := normZ (a.z * 10 ^ b.s - b.z * 10 ^ a.s) (a.s + b.s)
def mulD (a b : Dc) : Option Dc := normZ (a.z * b.z) (a.s + b.s)
def sgn (x : Int) : Int := if x < 0 then -1 else if 0 < x then 1 else 0
def cmpD (a b : Dc) : Int := sgn (a.z * 10 ^ b.s - b.z * 10 ^ a.s)

theorem p10 (k : Nat) : 0 < (10 : Int) ^ k := Int.pow_pos (by decide)
theorem n10 (k : Nat) : 0 < 10 ^ k := Nat.pow_pos (by decide)
theorem redN_ten {n s : Nat} (h : n ≠ 0) : redN (n * 10) (s + 1) = redN n s := by
  show (if n * 10 ≠ 0 ∧ n * 10 % 10 = 0 then redN (n * 10 / 10) s else (n * 10, s + 1)) = _
  rw [if_pos ⟨by omega, by omega⟩, Nat.mul_div_cancel _ (by decide)]
theorem redN_pow {n : Nat} (h : n ≠ 0) (s : Nat) : ∀ k, redN (n * 10 ^ k) (s + k) = redN n s
  | 0 => by simp
  | k + 1 => by
    have e : n * 10 ^ (k + 1) = n * 10 ^ k * 10 := by rw [Nat.pow_succ, Nat.mul_assoc]
    rw [e, ← Nat.add_assoc, redN_ten (Nat.mul_ne_zero h (Nat.pos_iff_ne_zero.1 (n10 k))), redN_pow h s k]
theorem redN_val : ∀ s n, ∃ k, n = (redN n s).1 * 10 ^ k ∧ s = (redN n s).2 + k
  | 0, n => ⟨0, by simp [redN], by simp [redN]⟩
  | s + 1, n => by
    unfold redN
    by_cases h : n ≠ 0 ∧ n % 10 = 0
    · rw [if_pos h]
      obtain ⟨k, h1, h2⟩ := redN_val s (n / 10)
      refine ⟨k + 1, ?_, by omega⟩
      rw [Nat.pow_succ, ← Nat.mul_assoc, ← h1]
      omega
    · rw [if_neg h]
      exact ⟨0, by simp, by simp⟩
theorem redN_end : ∀ s n, (redN n s).2 = 0 ∨ ¬ ((redN n s).1 ≠ 0 ∧ (redN n s).1 % 10 = 0)
  | 0, n => .inl rfl
  | s + 1, n => by
    unfold redN
    by_cases h : n ≠ 0 ∧ n % 10 = 0
    · rw [if_pos h]; exact redN_end s _
    · rw [if_neg h]; exact .inr h
theorem redN_fix {n s : Nat} (h : s = 0 ∨ n % 10 ≠ 0) : redN n s = (n, s) := by
  cases s with
  | zero => rfl
  | succ s =>
    unfold redN
    rw [if_neg (by omega)]
theorem redN_ne {n s : Nat} (h : n ≠ 0) : (redN n s).1 ≠ 0 := by
  obtain ⟨k, h1, _⟩ := redN_val s n
  intro e
  rw [e] at h1
  omega
theorem norm_pow (neg : Bool) (n s k : Nat) : norm neg (n * 10 ^ k) (s + k) = norm neg n s := by
  by_cases h : n = 0
  · subst h; simp [norm]
  · unfold norm
    rw [if_neg (Nat.mul_ne_zero h (Nat.pos_iff_ne_zero.1 (n10 k))), if_neg h, redN_pow h]
theorem normZ_pow (z : Int) (s k : Nat) : normZ (z * 10 ^ k) (s + k) = normZ z s := by
  unfold normZ
  have e : (z * 10 ^ k).natAbs = z.natAbs * 10 ^ k := by
    rw [Int.natAbs_mul, Int.natAbs_pow]
    rfl
  have e2 : decide (z * 10 ^ k < 0) = decide (z < 0) := by
    rw [decide_eq_decide]
    have := p10 k
    constructor
    · intro h
      rcases Int.lt_or_le z 0 with h2 | h2
      · exact h2
      · have := Int.mul_nonneg h2 (Int.le_of_lt this); omega
    · intro h
      exact Int.mul_neg_of_neg_of_pos h this
  rw [e, e2, norm_pow]
/-- The same number, the same decimal. -/
theorem normZ_eq {z y : Int} {s t : Nat} (h : z * 10 ^ t = y * 10 ^ s) : normZ z s = normZ y t := by
  rw [← normZ_pow z s t, ← normZ_pow y t s, h, Nat.add_comm]
theorem z_neg {d : Dc} (h : Ok d) : decide (d.z < 0) = d.neg ∧ d.z.natAbs = d.n := by
  obtain ⟨_, _, h3, _⟩ := h
  unfold Dc.z
  cases hn : d.neg with
  | false => simp
  | true =>
    simp
    rcases Nat.eq_zero_or_pos d.n with h0 | h0
    · have := (h3 h0).2; rw [hn] at this; cases this
    · omega
theorem normZ_self {d : Dc} (h : Ok d) : normZ d.z d.s = some d := by
  obtain ⟨e1, e2⟩ := z_neg h
  unfold normZ
  rw [e1, e2]
  obtain ⟨h1, h2, h3, h4⟩ := h
  unfold norm
  by_cases h0 : d.n = 0
  · rw [if_pos h0]
    obtain ⟨a, b⟩ := h3 h0
    obtain ⟨neg, n, s⟩ := d
    dsimp only at h0 a b
    subst h0 a b
    rfl
  · rw [if_neg h0, redN_fix h4, if_neg (by simp only; omega)]
theorem norm_ok {neg : Bool} {n s : Nat} {d : Dc} (h : norm neg n s = some d) : Ok d ∧ (d.n = 0 ↔ n = 0) ∧ (n ≠ 0 → d.neg = neg) ∧ ∃ k, n = d.n * 10 ^ k ∧ (n ≠ 0 → s = d.s + k) := by
  unfold norm at h
  by_cases h0 : n = 0
  · rw [if_pos h0] at h
    injection h with h
    subst h
    exact ⟨⟨by show 0 < topN; decide, Nat.zero_le _, fun _ => ⟨rfl, rfl⟩, .inl rfl⟩, ⟨fun _ => h0, fun _ => rfl⟩, fun h => absurd h0 h, 0, by simp [h0], fun h => absurd h0 h⟩
  · rw [if_neg h0] at h
    by_cases h1 : topN ≤ (redN n s).1 ∨ 60 < (redN n s).2
    · rw [if_pos h1] at h; cases h
    · rw [if_neg h1] at h
      injection h with h
      subst h
      have hne := redN_ne (s := s) h0
      obtain ⟨k, e1, e2⟩ := redN_val s n
      refine ⟨⟨by dsimp only; omega, by dsimp only; omega, fun h => absurd h hne, ?_⟩, ⟨fun h => absurd h hne, fun h => absurd h h0⟩, fun _ => rfl, k, e1, fun _ => e2⟩
      rcases redN_end s n with h2 | h2
      · exact .inl h2
      · exact .inr (fun h3 => h2 ⟨hne, h3⟩)
theorem normZ_ok {z : Int} {s : Nat} {d : Dc} (h : normZ z s = some d) : Ok d ∧ d.z * 10 ^ s = z * 10 ^ d.s := by
  unfold normZ at h
  obtain ⟨hok, h0, hneg, k, e1, e2⟩ := norm_ok h
  refine ⟨hok, ?_⟩
  by_cases hz : z = 0
  · subst hz
    have : d.n = 0 := h0.2 rfl
    have : d.z = 0 := by unfold Dc.z; rw [this]; split <;> rfl
    rw [this]
    simp
  · have hn0 : z.natAbs ≠ 0 := by omega
    have e3 := e2 hn0
    have e4 := hneg hn0
    have e5 : z = d.z * 10 ^ k := by
      unfold Dc.z
      rw [e4]
      have e6 : (z.natAbs : Int) = (d.n : Int) * 10 ^ k := by rw [e1]; simp
      by_cases hl : z < 0
      · rw [decide_eq_true hl, if_pos rfl, Int.neg_mul, ← e6]
        omega
      · rw [decide_eq_false hl, if_neg (by simp), ← e6]
        omega
    rw [e5, e3, Int.mul_assoc, ← Int.pow_add, Nat.add_comm]
/-- The decimal of which a number is, if one may be. -/
theorem normZ_is {z : Int} {s : Nat} {d : Dc} (hd : Ok d) (h : d.z * 10 ^ s = z * 10 ^ d.s) : normZ z s = some d := by
  rw [normZ_eq (y := d.z) (t := d.s) h.symm, normZ_self hd]
theorem Dc.inj {a b : Dc} (ha : Ok a) (hb : Ok b) (h : a.z * 10 ^ b.s = b.z * 10 ^ a.s) : a = b := by
  have h1 := normZ_self ha
  have h2 := normZ_is (z := a.z) (s := a.s) hb h.symm
  rw [h1] at h2
  injection h2
theorem addD_comm (a b : Dc) : addD a b = addD b a := by
  unfold addD
  rw [Int.add_comm, Nat.add_comm]
theorem mulD_comm (a b : Dc) : mulD a b = mulD b a := by
  unfold mulD
  rw [Int.mul_comm, Nat.add_comm]
theorem addD_ok {a b x : Dc} (h : addD a b = some x) : Ok x ∧ x.z * (10 ^ a.s * 10 ^ b.s) = (a.z * 10 ^ b.s + b.z * 10 ^ a.s) * 10 ^ x.s := by
  obtain ⟨h1, h2⟩ := normZ_ok h
  rw [Int.pow_add] at h2
  exact ⟨h1, h2⟩
theorem mulD_ok {a b x : Dc} (h : mulD a b = some x) : Ok x ∧ x.z * (10 ^ a.s * 10 ^ b.s) = a.z * b.z * 10 ^ x.s := by
  obtain ⟨h1, h2⟩ := normZ_ok h
  rw [Int.pow_add] at h2
  exact ⟨h1, h2⟩
theorem subD_ok {a b x : Dc} (h : subD a b = some x) : Ok x ∧ x.z * (10 ^ a.s * 10 ^ b.s) = (a.z * 10 ^ b.s - b.z * 10 ^ a.s) * 10 ^ x.s := by
  obtain ⟨h1, h2⟩ := normZ_ok h
  rw [Int.pow_add] at h2
  exact ⟨h1, h2⟩
theorem addD_is {a b x : Dc} (hx : Ok x) (h : x.z * (10 ^ a.s * 10 ^ b.s) = (a.z * 10 ^ b.s + b.z * 10 ^ a.s) * 10 ^ x.s) : addD a b = some x := normZ_is hx (by rw [Int.pow_add]; exact h)
theorem subD_is {a b x : Dc} (hx : Ok x) (h : x.z * (10 ^ a.s * 10 ^ b.s) = (a.z * 10 ^ b.s - b.z * 10 ^ a.s) * 10 ^ x.s) : subD a b = some x := normZ_is hx (by rw [Int.pow_add]; exact h)
theorem mulD_is {a b x : Dc} (hx : Ok x) (h : x.z * (10 ^ a.s * 10 ^ b.s) = a.z * b.z * 10 ^ x.s) : mulD a b = some x := normZ_is hx (by rw [Int.pow_add]; exact h)
theorem cancel {a b c : Int} (hc : 0 < c) (h : a * c = b * c) : a = b := Int.eq_of_mul_eq_mul_right (by omega) h
/-- The difference of a sum and the second is the first. -/
theorem sub_add {a b x : Dc} (ha : Ok a) (h : addD a b = some x) : subD x b = some a := by
  obtain ⟨_, h2⟩ := addD_ok h
  refine subD_is ha ?_
  grind
/-- A product with a sum is the sum of products. -/
theorem mul_add {a b c x l m n : Dc} (hx : addD a b = some x) (hl : mulD x c = some l) (hm : mulD a c = some m) (hn : mulD b c = some n) : addD m n = some l := by
  obtain ⟨_, x2⟩ := addD_ok hx
  obtain ⟨l1, l2⟩ := mulD_ok hl
  obtain ⟨_, m2⟩ := mulD_ok hm
  obtain ⟨_, n2⟩ := mulD_ok hn
  refine addD_is l1 ?_
  have pa := p10 a.s; have pb := p10 b.s; have pc := p10 c.s; have px := p10 x.s
  generalize (10 : Int) ^ a.s = A at *
  generalize (10 : Int) ^ b.s = B at *
  generalize (10 : Int) ^ c.s = C at *
  generalize (10 : Int) ^ x.s = X at *
  generalize (10 : Int) ^ l.s = L at *
  generalize (10 : Int) ^ m.s = M at *
  generalize (10 : Int) ^ n.s = N at *
  refine cancel (c := A * C * B * C * X) (Int.mul_pos (Int.mul_pos (Int.mul_pos (Int.mul_pos pa pc) pb) pc) px) ?_
  grind
theorem sgn_cases (x : Int) : (x < 0 ∧ sgn x = -1) ∨ (x = 0 ∧ sgn x = 0) ∨ (0 < x ∧ sgn x = 1) := by
  unfold sgn
  rcases Int.lt_trichotomy x 0 with h | h | h
  · left; exact ⟨h, if_pos h⟩
  · right; left; exact ⟨h, by rw [if_neg (by omega), if_neg (by omega)]⟩
  · right; right; exact ⟨h, by rw [if_neg (by omega), if_pos h]⟩
theorem sgn_neg (x : Int) : sgn (-x) = - sgn x := by
  rcases sgn_cases x with ⟨h, e⟩ | ⟨h, e⟩ | ⟨h, e⟩ <;> rcases sgn_cases (-x) with ⟨h2, e2⟩ | ⟨h2, e2⟩ | ⟨h2, e2⟩ <;> omega
theorem sgn_mul {x c : Int} (hc : 0 < c) : sgn (x * c) = sgn x := by
  rcases sgn_cases x with ⟨h, e⟩ | ⟨h, e⟩ | ⟨h, e⟩
  · rw [e]; exact if_pos (Int.mul_neg_of_neg_of_pos h hc)
  · rw [h, Int.zero_mul]
  · have := Int.mul_pos h hc
    rw [e]; unfold sgn; rw [if_neg (by omega), if_pos this]
theorem cmpD_swap (a b : Dc) : cmpD a b = - cmpD b a := by
  unfold cmpD
  rw [← sgn_neg]
  congr 1
  omega
theorem cmpD_zero {a b : Dc} (ha : Ok a) (hb : Ok b) : cmpD a b = 0 ↔ a = b := by
  unfold cmpD
  constructor
  · intro h
    rcases sgn_cases (a.z * 10 ^ b.s - b.z * 10 ^ a.s) with ⟨_, e⟩ | ⟨h2, _⟩ | ⟨_, e⟩
    · omega
    · exact Dc.inj ha hb (by omega)
    · omega
  · rintro rfl
    rw [Int.sub_self]
    rfl
def zeroD : Dc := ⟨false, 0, 0⟩
theorem ok_zero : Ok zeroD := ⟨by decide, Nat.zero_le _, fun _ => ⟨rfl, rfl⟩, .inl rfl⟩
/-- The order goes with the difference. -/
theorem cmp_sub {a b d : Dc} (h : subD a b = some d) : cmpD d zeroD = cmpD a b := by
  obtain ⟨_, h2⟩ := subD_ok h
  unfold cmpD zeroD
  have e : (⟨false, 0, 0⟩ : Dc).z = 0 := rfl
  rw [e]
  simp only [Int.pow_zero, Int.mul_one, Int.zero_mul, Int.sub_zero]
  have pa := p10 a.s; have pb := p10 b.s; have pd := p10 d.s
  rw [← sgn_mul (x := d.z) (Int.mul_pos pa pb), h2, sgn_mul pd]
theorem cmpD_le_trans {a b c : Dc} (h1 : cmpD a b ≤ 0) (h2 : cmpD b c ≤ 0) : cmpD a c ≤ 0 := by
  unfold cmpD at *
  have pa := p10 a.s; have pb := p10 b.s; have pc := p10 c.s
  have le : ∀ x : Int, sgn x ≤ 0 ↔ x ≤ 0 := fun x => by rcases sgn_cases x with ⟨h, e⟩ | ⟨h, e⟩ | ⟨h, e⟩ <;> omega
  rw [le] at *
  generalize (10 : Int) ^ a.s = A at *
  generalize (10 : Int) ^ b.s = B at *
  generalize (10 : Int) ^ c.s = C at *
  have e1 : (a.z * B - b.z * A) * C ≤ 0 := by
    have := Int.mul_le_mul_of_nonneg_right h1 (Int.le_of_lt pc)
    simpa using this
  have e2 : (b.z * C - c.z * B) * A ≤ 0 := by
    have := Int.mul_le_mul_of_nonneg_right h2 (Int.le_of_lt pa)
    simpa using this
  have e3 : (a.z * C - c.z * A) * B ≤ 0 := by
    have : (a.z * C - c.z * A) * B = (a.z * B - b.z * A) * C + (b.z * C - c.z * B) * A := by grind
    omega
  rcases Int.lt_or_le 0 (a.z * C - c.z * A) with h | h
  · have := Int.mul_pos h pb; omega
  · exact h
/-- What may be refused, and what not. -/
theorem mulD_one {d one : Dc} (hd : Ok d) (h1 : one.z = 1) (h2 : one.s = 0) : mulD d one = some d := by
  refine mulD_is hd ?_
  rw [h1, h2]
  simp
theorem mulD_zero {d zero : Dc} (h1 : zero.z = 0) : mulD d zero = some zeroD := by
  refine mulD_is ok_zero ?_
  have e : zeroD.z = 0 := rfl
  rw [h1, e]
  simp
/-- A tenth of ten times as much. -/
theorem mul_tenth {d ten tenth x : Dc} (hd : Ok d) (h1 : ten.z = 10) (h2 : ten.s = 0) (h3 : tenth.z = 1) (h4 : tenth.s = 1) (h : mulD d ten = some x) : mulD x tenth = some d := by
  obtain ⟨_, e⟩ := mulD_ok h
  refine mulD_is hd ?_
  rw [h1, h2] at e
  rw [h3, h4]
  simp only [Int.pow_zero, Int.mul_one, Int.pow_one] at *
  grind
theorem tenth_mul {d ten tenth x : Dc} (hd : Ok d) (h1 : ten.z = 10) (h2 : ten.s = 0) (h3 : tenth.z = 1) (h4 : tenth.s = 1) (h : mulD d tenth = some x) : mulD x ten = some d ∧ cmpD x zeroD = cmpD d zeroD := by
  obtain ⟨_, e⟩ := mulD_ok h
  rw [h3, h4] at e
  simp only [Int.pow_one, Int.mul_one] at e
  refine ⟨?_, ?_⟩
  · refine mulD_is hd ?_
    rw [h1, h2]
    simp only [Int.pow_zero, Int.mul_one] at *
    grind
  · unfold cmpD
    have e0 : zeroD.z = 0 := rfl
    have e1 : zeroD.s = 0 := rfl
    rw [e0, e1]
    simp only [Int.pow_zero, Int.mul_one, Int.zero_mul, Int.sub_zero]
    have pd := p10 d.s; have px := p10 x.s
    rw [← sgn_mul (x := x.z) (Int.mul_pos pd (show (0 : Int) < 10 by decide)), e, sgn_mul px]
end Go.Proofs.YtampgimmodomoaaDoor

/- Plain: decimals written, and read. No program in sight. -/
namespace Go.Proofs.YtampgimmodomoaaDoor

/-- A number's digits; of nought: one. -/
def dtxt (n : Nat) : List UInt8 := if n = 0 then [48] else dstr n
def isDig (c : UInt8) : Bool := decide (Dig c)
def lead (l : List UInt8) : List UInt8 := l.takeWhile isDig
def rest (l : List UInt8) : List UInt8 := l.dropWhile isDig
/-- What stands behind e. -/
def expoS (l : List UInt8) : Option Int :=
  if rest l ≠ [] ∨ (lead l).length < 1 ∨ 2 < (lead l).length then none else some (val (lead l) : Int)
def expoL : List UInt8 → Option Int
  | [] => some 0
  | c :: t => if c ≠ 101 ∧ c ≠ 69 then none else
    match t with
    | 45 :: u => (expoS u).map (fun x => -x)
    | 43 :: u => expoS u
    | _ => expoS t
/-- The digits ahead of the point and behind it, and what follows. -/
def partL (l : List UInt8) : Option (List UInt8 × List UInt8) :=
  match l with
  | 46 :: t => if lead t = [] then none else some (lead t, rest t)
  | _ => some ([], l)
def plainN (l : List UInt8) : Option (Nat × Nat) :=
  match partL (rest l) with
  | none => none
  | some (p, r) => match expoL r with
    | none => none
    | some up => if lead l = [] ∨ (1 < (lead l).length ∧ (lead l).head? = some 48) then none else
      if (p.length : Int) - up < 0 then some (val (lead l ++ p) * 10 ^ (up - p.length).toNat, 0) else some (val (lead l ++ p), ((p.length : Int) - up).toNat)
def signL (l : List UInt8) : Bool × List UInt8 :=
  match l with
  | 45 :: t => (true, t)
  | _ => (false, l)
/-- What a text is: nothing that may be read; or what it is read as, if that is not too big. -/
def parseL (l : List UInt8) : Option (Option Dc) := (plainN (signL l).2).map fun x => norm (signL l).1 x.1 x.2
/-- A decimal's text. -/
def padL (d : Dc) : List UInt8 := List.replicate (d.s + 1 - (dtxt d.n).length) 48 ++ dtxt d.n
def bareL (d : Dc) : List UInt8 := if d.s = 0 then padL d else (padL d).take ((padL d).length - d.s) ++ 46 :: (padL d).drop ((padL d).length - d.s)
def printL (d : Dc) : List UInt8 := (if d.neg then [45] else []) ++ bareL d

theorem digs_dtxt (n : Nat) : Digs (dtxt n) := by
  unfold dtxt
  split
  · intro c h; rw [List.mem_singleton.1 h]; decide
  · exact digs_dstr n
theorem val_dtxt (n : Nat) : val (dtxt n) = n := by
  unfold dtxt
  split
  · rename_i h; rw [h]; rfl
  · exact val_dstr n
theorem length_dtxt (n : Nat) : 1 ≤ (dtxt n).length := by
  unfold dtxt
  split
  · exact Nat.le_refl _
  · rename_i h
    rcases Nat.eq_zero_or_pos (dstr n).length with h0 | h0
    · exact absurd (dstr_nil.1 (List.eq_nil_of_length_eq_zero h0)) h
    · exact h0
theorem dtxt_head (n : Nat) (h : 1 < (dtxt n).length) : (dtxt n).head? ≠ some 48 := by
  unfold dtxt at h ⊢
  split
  · rename_i h0; rw [if_pos h0] at h; simp at h
  · rename_i h0
    obtain ⟨c, t, e, hc⟩ := dstr_head n h0
    rw [e]
    intro h2
    injection h2 with h2
    exact hc h2
theorem dtxt_inj {a b : Nat} (h : dtxt a = dtxt b) : a = b := by
  have := congrArg val h
  rwa [val_dtxt, val_dtxt] at this
theorem length_dtxt_le {n k : Nat} (h : n < 10 ^ k) (hk : 1 ≤ k) : (dtxt n).length ≤ k := by
  unfold dtxt
  split
  · exact hk
  · exact length_dstr_le h
theorem isDig_iff (c : UInt8) : isDig c = true ↔ Dig c := decide_eq_true_iff
theorem lead_rest (l : List UInt8) : lead l ++ rest l = l := List.takeWhile_append_dropWhile
theorem digs_lead (l : List UInt8) : Digs (lead l) := by
  intro c hc
  unfold lead at hc
  have : ∀ m : List UInt8, c ∈ m.takeWhile isDig → isDig c = true := by
    intro m
    induction m with
    | nil => intro h; cases h
    | cons a m ih =>
      intro h
      by_cases ha : isDig a = true
      · rw [List.takeWhile_cons_of_pos ha] at h
        rcases List.mem_cons.1 h with rfl | h
        · exact ha
        · exact ih h
      · rw [List.takeWhile_cons_of_neg ha] at h
        cases h
  exact (isDig_iff c).1 (this l hc)
theorem lead_append {a : List UInt8} (ha : Digs a) (b : List UInt8) : lead (a ++ b) = a ++ lead b ∧ rest (a ++ b) = rest b := by
  induction a with
  | nil => exact ⟨rfl, rfl⟩
  | cons c a ih =>
    have hc : isDig c = true := (isDig_iff c).2 (ha c (by simp))
    obtain ⟨i1, i2⟩ := ih (fun x hx => ha x (by simp [hx]))
    unfold lead rest at *
    rw [List.cons_append, List.takeWhile_cons_of_pos hc, List.dropWhile_cons_of_pos hc, i1, i2]
    exact ⟨rfl, rfl⟩
theorem lead_stop {c : UInt8} (hc : ¬ Dig c) (t : List UInt8) : lead (c :: t) = [] ∧ rest (c :: t) = c :: t := by
  have : ¬ isDig c = true := fun h => hc ((isDig_iff c).1 h)
  unfold lead rest
  rw [List.takeWhile_cons_of_neg this, List.dropWhile_cons_of_neg this]
  exact ⟨rfl, rfl⟩
theorem lead_all {a : List UInt8} (ha : Digs a) : lead a = a ∧ rest a = [] := by
  have := lead_append ha []
  rw [List.append_nil] at this
  rw [this.1, this.2]
  exact ⟨List.append_nil _, rfl⟩
/-- A text of digits, a point, digits, and an end that begins with no digit and no point. -/
theorem plain_form {W P E : List UInt8} (hW : Digs W) (hP : Digs P) (hne : W ≠ []) (hh : 1 < W.length → W.head? ≠ some 48) (hE : lead E = []) (hE2 : ∀ t, E ≠ 46 :: t) (up : Int) (hup : expoL E = some up) :
    plainN (W ++ ((if P = [] then [] else 46 :: P) ++ E)) = if (P.length : Int) - up < 0 then some (val (W ++ P) * 10 ^ (up - P.length).toNat, 0) else some (val (W ++ P), ((P.length : Int) - up).toNat) := by
  have hrE : rest E = E := by have := lead_rest E; rw [hE] at this; exact this
  have hw : ¬ (W = [] ∨ (1 < W.length ∧ W.head? = some 48)) := by
    rintro (h | ⟨h1, h2⟩)
    · exact hne h
    · exact hh h1 h2
  by_cases hp : P = []
  · subst hp
    simp only [if_pos, List.nil_append]
    obtain ⟨e1, e2⟩ := lead_append hW E
    unfold plainN
    rw [e1, e2, hE, hrE, List.append_nil]
    have e3 : partL E = some ([], E) := by
      unfold partL
      split
      · rename_i t _ ; exact absurd rfl (hE2 _)
      · rfl
    rw [e3]
    simp only [hup, if_neg hw, List.append_nil]
  · simp only [if_neg hp]
    obtain ⟨e1, e2⟩ := lead_append hW (46 :: P ++ E)
    obtain ⟨s1, s2⟩ := lead_stop (c := 46) (by decide) (P ++ E)
    obtain ⟨p1, p2⟩ := lead_append hP E
    unfold plainN
    rw [e1, e2]
    simp only [List.cons_append, s1, s2, List.append_nil]
    have e3 : partL (46 :: (P ++ E)) = some (P, E) := by
      show (if lead (P ++ E) = [] then none else some (lead (P ++ E), rest (P ++ E))) = _
      rw [p1, p2, hE, hrE, List.append_nil, if_neg hp]
    rw [e3]
    simp only [hup, if_neg hw]
theorem padL_ok (d : Dc) : Digs (padL d) ∧ val (padL d) = d.n ∧ d.s + 1 ≤ (padL d).length := by
  unfold padL
  refine ⟨(Digs.zeros _).append (digs_dtxt _), ?_, ?_⟩
  · rw [val_append, val_zeros, val_dtxt]; simp
  · rw [List.length_append, List.length_replicate]; omega
/-- A decimal's text: digits, and behind a point as many as it says. -/
theorem bare_form (d : Dc) : ∃ W P, Digs W ∧ Digs P ∧ W ≠ [] ∧ (1 < W.length → W.head? ≠ some 48) ∧ P.length = d.s ∧ val (W ++ P) = d.n ∧ bareL d = W ++ (if P = [] then [] else 46 :: P) := by
  obtain ⟨h1, h2, h3⟩ := padL_ok d
  refine ⟨(padL d).take ((padL d).length - d.s), (padL d).drop ((padL d).length - d.s), h1.take _, h1.drop _, ?_, ?_, ?_, ?_, ?_⟩
  · intro e
    have := congrArg List.length e
    rw [List.length_take] at this
    simp at this
    omega
  · intro hlt
    rw [List.length_take] at hlt
    have hrep : d.s + 1 - (dtxt d.n).length = 0 := by
      have : (padL d).length = (d.s + 1 - (dtxt d.n).length) + (dtxt d.n).length := by unfold padL; rw [List.length_append, List.length_replicate]
      omega
    have hpad : padL d = dtxt d.n := by unfold padL; rw [hrep]; rfl
    rw [hpad] at hlt ⊢
    have hl := dtxt_head d.n (by omega)
    rw [List.head?_take, if_neg (by omega)]
    exact hl
  · rw [List.length_drop]; omega
  · rw [List.take_append_drop]; exact h2
  · unfold bareL
    by_cases hs : d.s = 0
    · rw [if_pos hs, hs]
      have e : (padL d).drop ((padL d).length - 0) = [] := by rw [Nat.sub_zero, List.drop_length]
      rw [e, if_pos rfl, List.append_nil, Nat.sub_zero, List.take_length]
    · rw [if_neg hs, if_neg]
      intro e
      have := congrArg List.length e
      rw [List.length_drop] at this
      simp at this
      omega
theorem sign_print (d : Dc) (E : List UInt8) : signL (printL d ++ E) = (d.neg, bareL d ++ E) := by
  unfold printL
  cases hn : d.neg with
  | true => rfl
  | false =>
    obtain ⟨W, P, hW, _, hne, _, _, _, e⟩ := bare_form d
    obtain ⟨c, t, rfl⟩ := List.exists_cons_of_ne_nil hne
    have hc := hW c (by simp)
    rw [e]
    unfold signL
    simp only [Bool.false_eq_true, if_false, List.nil_append, List.cons_append]
    split
    · rename_i h
      injection h with h
      subst h
      exact absurd hc (by decide)
    · rfl
/-- A decimal's text with an end behind it. -/
theorem parse_print (d : Dc) (E : List UInt8) (hE : lead E = []) (hE2 : ∀ t, E ≠ 46 :: t) (up : Int) (hup : expoL E = some up) :
    parseL (printL d ++ E) = some (if (d.s : Int) - up < 0 then norm d.neg (d.n * 10 ^ (up - d.s).toNat) 0 else norm d.neg d.n ((d.s : Int) - up).toNat) := by
  unfold parseL
  rw [sign_print]
  obtain ⟨W, P, hW, hP, hne, hh, hl, hv, e⟩ := bare_form d
  rw [e]
  simp only
  rw [List.append_assoc, plain_form hW hP hne hh hE hE2 up hup, hl, hv]
  split <;> rfl
/-- What was printed is parsed as it was. -/
theorem parse_back {d : Dc} (h : Ok d) : parseL (printL d) = some (some d) := by
  have := parse_print d [] rfl (by simp) 0 rfl
  rw [List.append_nil] at this
  rw [this, if_neg (by omega)]
  have e := normZ_self h
  obtain ⟨e1, e2⟩ := z_neg h
  unfold normZ at e
  rw [e1, e2] at e
  rw [← e]
  congr 2
theorem parse_ok {l : List UInt8} {d : Dc} (h : parseL l = some (some d)) : Ok d := by
  unfold parseL at h
  cases hp : plainN (signL l).2 with
  | none => rw [hp] at h; cases h
  | some x =>
    rw [hp] at h
    injection h with h
    exact (norm_ok h).1
/-- A decimal's text is as long as it says. -/
theorem print_form (d : Dc) : ∃ W P, Digs W ∧ Digs P ∧ W ≠ [] ∧ P.length = d.s ∧ printL d = (if d.neg then [45] else []) ++ (W ++ (if P = [] then [] else 46 :: P)) := by
  obtain ⟨W, P, h1, h2, h3, _, h4, _, h5⟩ := bare_form d
  exact ⟨W, P, h1, h2, h3, h4, by unfold printL; rw [h5]⟩

/-- A whole number. -/
def intD (x : Int) : Dc := ⟨decide (x < 0), x.natAbs, 0⟩
theorem z_int (x : Int) : (intD x).z = x := by
  unfold intD Dc.z
  dsimp only
  by_cases h : x < 0
  · rw [decide_eq_true h, if_pos rfl]; omega
  · rw [decide_eq_false h, if_neg (by simp)]; omega
theorem ok_int {x : Int} (h : x.natAbs < topN) : Ok (intD x) :=
  ⟨h, Nat.zero_le _, fun h0 => ⟨rfl, decide_eq_false (by have : x.natAbs = 0 := h0; omega)⟩, .inl rfl⟩
theorem norm_int {x : Int} (h : x.natAbs < topN) : norm (decide (x < 0)) x.natAbs 0 = some (intD x) := by
  have := normZ_self (ok_int h)
  rw [z_int] at this
  exact this
theorem norm_zero_neg (neg : Bool) (s : Nat) : norm neg 0 s = some zeroD := by unfold norm; rw [if_pos rfl]; rfl
theorem add_int {x y : Int} (h : (x + y).natAbs < topN) : addD (intD x) (intD y) = some (intD (x + y)) := by
  refine addD_is (ok_int h) ?_
  rw [z_int, z_int, z_int]
  have e : ∀ v, (intD v).s = 0 := fun _ => rfl
  simp only [e]
  simp
theorem sub_int {x y : Int} (h : (x - y).natAbs < topN) : subD (intD x) (intD y) = some (intD (x - y)) := by
  refine subD_is (ok_int h) ?_
  rw [z_int, z_int, z_int]
  have e : ∀ v, (intD v).s = 0 := fun _ => rfl
  simp only [e]
  simp
theorem mul_int {x y : Int} (h : (x * y).natAbs < topN) : mulD (intD x) (intD y) = some (intD (x * y)) := by
  refine mulD_is (ok_int h) ?_
  rw [z_int, z_int, z_int]
  have e : ∀ v, (intD v).s = 0 := fun _ => rfl
  simp only [e]
  simp
theorem cmp_int (x y : Int) : cmpD (intD x) (intD y) = sgn (x - y) := by
  unfold cmpD
  rw [z_int, z_int]
  have e : ∀ v, (intD v).s = 0 := fun _ => rfl
  simp only [e]
  simp
/-- To multiply by ten again and again. -/
def tens (d : Dc) : Nat → Option Dc
  | 0 => some d
  | k + 1 => (tens d k).bind fun x => mulD x (intD 10)
theorem norm_none_more {z : Int} {s : Nat} (hs : s ≤ 60) (h : normZ z s = none) : normZ (z * 10) s = none := by
  unfold normZ norm at *
  have hz : z.natAbs ≠ 0 := by
    intro h0
    rw [if_pos h0] at h
    cases h
  have hz2 : (z * 10).natAbs ≠ 0 := by omega
  rw [if_neg hz] at h
  rw [if_neg hz2]
  have hle : ∀ t n : Nat, (redN n t).2 ≤ t := fun t n => by
    obtain ⟨k, _, h2⟩ := redN_val t n
    omega
  have h1 : topN ≤ (redN z.natAbs s).1 := by
    by_cases h2 : topN ≤ (redN z.natAbs s).1 ∨ 60 < (redN z.natAbs s).2
    · rcases h2 with h2 | h2
      · exact h2
      · have := hle s z.natAbs; omega
    · rw [if_neg h2] at h; cases h
  have e : (z * 10).natAbs = z.natAbs * 10 := by omega
  suffices h9 : topN ≤ (redN (z * 10).natAbs s).1 by rw [if_pos (.inl h9)]
  rw [e]
  cases s with
  | zero => show topN ≤ z.natAbs * 10; have : topN ≤ z.natAbs := h1; omega
  | succ s =>
    rw [redN_ten hz]
    have : ∀ t n, (redN n (t + 1)).1 ≤ (redN n t).1 := by
      intro t
      induction t with
      | zero => intro n; unfold redN; split <;> (simp only [redN]; omega)
      | succ t ih =>
        intro n
        by_cases hc : n ≠ 0 ∧ n % 10 = 0
        · have e1 : redN n (t + 1 + 1) = redN (n / 10) (t + 1) := if_pos hc
          have e2 : redN n (t + 1) = redN (n / 10) t := if_pos hc
          rw [e1, e2]
          exact ih _
        · have e1 : redN n (t + 1 + 1) = (n, t + 1 + 1) := if_neg hc
          have e2 : redN n (t + 1) = (n, t + 1) := if_neg hc
          rw [e1, e2]
          exact Nat.le_refl _
    exact Nat.le_trans h1 (this s _)
theorem tens_norm {d : Dc} (hd : Ok d) : ∀ k, tens d k = normZ (d.z * 10 ^ k) d.s
  | 0 => by simp only [tens, Int.pow_zero, Int.mul_one]; exact (normZ_self hd).symm
  | k + 1 => by
    unfold tens
    rw [tens_norm hd k]
    cases h : normZ (d.z * 10 ^ k) d.s with
    | none =>
      rw [Int.pow_succ, ← Int.mul_assoc, norm_none_more hd.2.1 h]
      rfl
    | some x =>
      obtain ⟨h1, h2⟩ := normZ_ok h
      show mulD x (intD 10) = _
      unfold mulD
      rw [z_int]
      have e : (intD 10).s = 0 := rfl
      rw [e, Nat.add_zero]
      refine normZ_eq ?_
      rw [Int.pow_succ]
      grind
/-- With an exponent behind it a decimal is parsed as it is multiplied. -/
theorem parse_expo {d : Dc} (hd : Ok d) (k : Nat) (hk : k < 10) : parseL (printL d ++ [101, UInt8.ofNat (48 + k)]) = some (tens d k) := by
  have hdg : UInt8.ofNat (48 + k) = dg k := by unfold dg; rw [Nat.mod_eq_of_lt hk]
  have hup : expoL [101, UInt8.ofNat (48 + k)] = some (k : Int) := by
    rw [hdg]
    have hD := dg_dig k
    have hl : lead [dg k] = [dg k] ∧ rest [dg k] = [] := lead_all (fun c h => by rw [List.mem_singleton.1 h]; exact hD)
    have hes : expoS [dg k] = some (k : Int) := by
      unfold expoS
      rw [hl.1, hl.2, if_neg (by simp)]
      have : val [dg k] = k := by
        have := val_snoc [] (dg k)
        rw [List.nil_append] at this
        rw [this, dg_toNat]
        simp [val]
        omega
      rw [this]
    unfold Dig at hD
    have h45 : dg k ≠ 45 := by intro e; rw [e] at hD; revert hD; decide
    have h43 : dg k ≠ 43 := by intro e; rw [e] at hD; revert hD; decide
    unfold expoL
    simp only
    rw [if_neg (by decide)]
    split
    · rename_i h; injection h with h; exact absurd h h45
    · rename_i h; injection h with h; exact absurd h h43
    · exact hes
  rw [parse_print d _ (lead_stop (by decide) _).1 (fun t h => by injection h with h; revert h; decide) k hup, tens_norm hd]
  congr 1
  obtain ⟨e1, e2⟩ := z_neg hd
  have key : ∀ n s : Nat, (n : Nat) * 10 ^ s = n * 10 ^ s := fun _ _ => rfl
  have ez : normZ (d.z * 10 ^ k) d.s = norm d.neg (d.n * 10 ^ k) d.s := by
    unfold normZ
    have a1 : decide (d.z * 10 ^ k < 0) = d.neg := by
      rw [← e1, decide_eq_decide]
      have := p10 k
      constructor
      · intro h
        rcases Int.lt_or_le d.z 0 with h2 | h2
        · exact h2
        · have := Int.mul_nonneg h2 (Int.le_of_lt this); omega
      · intro h
        exact Int.mul_neg_of_neg_of_pos h this
    have a2 : (d.z * 10 ^ k).natAbs = d.n * 10 ^ k := by
      rw [Int.natAbs_mul, Int.natAbs_pow, e2]
      rfl
    rw [a1, a2]
  rw [ez]
  by_cases h : (d.s : Int) - (k : Int) < 0
  · rw [if_pos h]
    have e3 : ((k : Int) - (d.s : Int)).toNat = k - d.s := by omega
    have e4 : d.n * 10 ^ k = d.n * 10 ^ (k - d.s) * 10 ^ d.s := by
      rw [Nat.mul_assoc, ← Nat.pow_add]
      congr 2
      omega
    have := norm_pow d.neg (d.n * 10 ^ (k - d.s)) 0 d.s
    rw [Nat.zero_add] at this
    rw [e3, e4, this]
  · rw [if_neg h]
    have e3 : ((d.s : Int) - (k : Int)).toNat = d.s - k := by omega
    have := norm_pow d.neg d.n (d.s - k) k
    have e4 : d.s - k + k = d.s := by omega
    rw [e4] at this
    rw [e3, this]
end Go.Proofs.YtampgimmodomoaaDoor

/- Plain: digits of limbs, limbs of digits, digit by digit. No program in sight. -/
namespace Go.Proofs.YtampgimmodomoaaDoor

theorem digN_front (j n : Nat) : digN (j + 1) n = dg (n / 10 ^ j) :: digN j n := by
  rw [Nat.add_comm, digN_add]
  rfl
/-- Digits, from the end on, ahead of them what is not written yet. -/
def outD (T j n : Nat) : List UInt8 := List.replicate (T - j) 0 ++ digN j n
theorem length_outD {T j : Nat} (n : Nat) (h : j ≤ T) : (outD T j n).length = T := by
  unfold outD
  rw [List.length_append, List.length_replicate, length_digN]
  omega
theorem outD_zero (T n : Nat) : outD T 0 n = List.replicate T 0 := by simp [outD, digN]
theorem outD_all (T n : Nat) : outD T T n = digN T n := by simp [outD]
theorem outD_set {T j : Nat} (n : Nat) (h : j < T) : (outD T j n).set (T - 1 - j) (dg (n / 10 ^ j)) = outD T (j + 1) n := by
  unfold outD
  rw [digN_front]
  have e : T - j = (T - (j + 1)) + 1 := by omega
  rw [e, List.replicate_succ', List.append_assoc]
  have hl : (List.replicate (T - (j + 1)) (0 : UInt8)).length = T - 1 - j := by rw [List.length_replicate]; omega
  rw [List.set_append_right _ _ (by omega), hl, Nat.sub_self]
  rfl
/-- The digits that a limb holds. -/
theorem val_chunk (l : List UInt8) (e : Nat) (he : e ≤ l.length) : val (l.take e) = val (l.take (e - 9)) * Bs + val ((l.take e).drop (e - 9)) := by
  have h : l.take e = l.take (e - 9) ++ (l.take e).drop (e - 9) := by
    have := List.take_append_drop (e - 9) (l.take e)
    rw [List.take_take, Nat.min_eq_left (by omega)] at this
    exact this.symm
  have h2 := congrArg val h
  rw [val_append] at h2
  rcases Nat.lt_or_ge e 9 with h9 | h9
  · have e0 : e - 9 = 0 := by omega
    rw [e0] at h2 ⊢
    simp [val_nil]
  · have hl : ((l.take e).drop (e - 9)).length = 9 := by rw [List.length_drop, List.length_take]; omega
    rw [hl] at h2
    exact h2
theorem chunk_lt {l : List UInt8} (hl : Digs l) (e : Nat) (he : e ≤ l.length) : val ((l.take e).drop (e - 9)) < Bs := by
  have h := val_lt _ ((hl.take e).drop (e - 9))
  have h2 : ((l.take e).drop (e - 9)).length ≤ 9 := by rw [List.length_drop, List.length_take]; omega
  exact Nat.lt_of_lt_of_le h (Nat.pow_le_pow_right (by decide) h2)
/-- Where the limbs of digits stand. -/
def NatI (l : List UInt8) (out : List Nat) (e : Nat) : Prop := Lims out ∧ e ≤ l.length ∧ lval out + Bs ^ out.length * val (l.take e) = val l
theorem NatI.start (l : List UInt8) : NatI l [] l.length := ⟨Lims.nil, Nat.le_refl _, by rw [List.take_length]; simp [lval]⟩
theorem NatI.next {l : List UInt8} {out : List Nat} {e : Nat} (hl : Digs l) (h : NatI l out e) : NatI l (out ++ [val ((l.take e).drop (e - 9))]) (e - 9) := by
  obtain ⟨h1, h2, h3⟩ := h
  refine ⟨h1.snoc (chunk_lt hl e h2), by omega, ?_⟩
  rw [val_chunk l e h2] at h3
  rw [lval_snoc, List.length_append, List.length_singleton, Nat.pow_succ, Nat.mul_assoc, Nat.mul_comm Bs]
  rw [Nat.mul_add] at h3
  omega
theorem NatI.done {l : List UInt8} {out : List Nat} (h : NatI l out 0) : lval out = val l := by
  have := h.2.2
  simpa [val_nil] using this
/-- Digits of one length are in the order of their numbers. -/
theorem less_val : ∀ (a b : List UInt8), Digs a → Digs b → a.length = b.length → (Go.Op.bytesLess a b = decide (val a < val b))
  | [], [], _, _, _ => by simp [Go.Op.bytesLess, val_nil]
  | [], _ :: _, _, _, h => by simp at h
  | _ :: _, [], _, _, h => by simp at h
  | x :: a, y :: b, ha, hb, h => by
    have hx := ha x (by simp)
    have hy := hb y (by simp)
    have hl : a.length = b.length := by simpa using h
    have da : Digs a := fun c hc => ha c (by simp [hc])
    have db : Digs b := fun c hc => hb c (by simp [hc])
    have ih := less_val a b da db hl
    have va := val_lt a da
    have vb := val_lt b db
    rw [hl] at va
    unfold Dig at hx hy
    rw [val_cons, val_cons, hl]
    unfold Go.Op.bytesLess
    rw [ih]
    generalize 10 ^ b.length = P at *
    rcases Nat.lt_trichotomy x.toNat y.toNat with h1 | h1 | h1
    · have e1 : decide (x < y) = true := decide_eq_true (UInt8.lt_iff_toNat_lt.2 h1)
      have e2 : (x.toNat - 48 + 1) * P ≤ (y.toNat - 48) * P := Nat.mul_le_mul_right _ (by omega)
      rw [Nat.add_mul] at e2
      rw [e1, Bool.true_or, eq_comm, decide_eq_true_iff]
      omega
    · have e0 : x = y := UInt8.toNat_inj.1 h1
      subst e0
      have e1 : decide (x < x) = false := decide_eq_false (by rw [UInt8.lt_iff_toNat_lt]; omega)
      rw [e1, Bool.false_or, beq_self_eq_true, Bool.true_and, decide_eq_decide]
      omega
    · have e1 : decide (x < y) = false := decide_eq_false (by rw [UInt8.lt_iff_toNat_lt]; omega)
      have e3 : (x == y) = false := by rw [beq_eq_false_iff_ne]; intro e; rw [e] at h1; omega
      have e2 : (y.toNat - 48 + 1) * P ≤ (x.toNat - 48) * P := Nat.mul_le_mul_right _ (by omega)
      rw [Nat.add_mul] at e2
      rw [e1, e3, Bool.false_or, Bool.false_and, eq_comm, decide_eq_false_iff_not]
      omega
end Go.Proofs.YtampgimmodomoaaDoor

/- Plain: what the code of sums, differences, products and the order computes, said of numbers. No program in sight. -/
namespace Go.Proofs.YtampgimmodomoaaDoor

theorem normZ_pos (n s : Nat) : normZ (n : Int) s = norm false n s := by
  unfold normZ
  rw [decide_eq_false (by omega), Int.natAbs_natCast]
theorem normZ_neg (n s : Nat) : normZ (-(n : Int)) s = norm true n s := by
  unfold normZ
  rcases Nat.eq_zero_or_pos n with rfl | h
  · rfl
  · rw [decide_eq_true (by omega), Int.natAbs_neg, Int.natAbs_natCast]
theorem norm_sign (neg : Bool) (n s : Nat) : norm neg n s = normZ (if neg then -(n : Int) else n) s := by
  cases neg
  · simp only [Bool.false_eq_true, if_false]; exact (normZ_pos n s).symm
  · simp only [if_true]; exact (normZ_neg n s).symm
/-- The numbers of both at the greater scale. -/
def up (d : Dc) (S : Nat) : Nat := d.n * 10 ^ (S - d.s)
theorem z_up (d : Dc) (S : Nat) : d.z * 10 ^ (S - d.s) = if d.neg then -(up d S : Int) else (up d S : Int) := by
  unfold up Dc.z
  cases d.neg <;> simp [Int.neg_mul]
theorem add_scale (a b : Dc) (f : Int → Int → Int) (hf : ∀ x y c, f (x * c) (y * c) = f x y * c) : normZ (f (a.z * 10 ^ b.s) (b.z * 10 ^ a.s)) (a.s + b.s) = normZ (f (a.z * 10 ^ (max a.s b.s - a.s)) (b.z * 10 ^ (max a.s b.s - b.s))) (max a.s b.s) := by
  refine normZ_eq ?_
  rw [← hf, ← hf]
  have e1 : (10 : Int) ^ b.s * 10 ^ max a.s b.s = 10 ^ (max a.s b.s - a.s) * 10 ^ (a.s + b.s) := by
    rw [← Int.pow_add, ← Int.pow_add]; congr 1; omega
  have e2 : (10 : Int) ^ a.s * 10 ^ max a.s b.s = 10 ^ (max a.s b.s - b.s) * 10 ^ (a.s + b.s) := by
    rw [← Int.pow_add, ← Int.pow_add]; congr 1; omega
  rw [Int.mul_assoc, Int.mul_assoc, Int.mul_assoc, Int.mul_assoc, e1, e2]
theorem add_code (a b : Dc) : addD a b = if a.neg = b.neg then norm a.neg (up a (max a.s b.s) + up b (max a.s b.s)) (max a.s b.s) else
    if up b (max a.s b.s) ≤ up a (max a.s b.s) then norm a.neg (up a (max a.s b.s) - up b (max a.s b.s)) (max a.s b.s) else norm b.neg (up b (max a.s b.s) - up a (max a.s b.s)) (max a.s b.s) := by
  have h := add_scale a b (fun x y => x + y) (fun x y c => by rw [Int.add_mul])
  unfold addD
  rw [h, z_up, z_up]
  generalize up a (max a.s b.s) = X
  generalize up b (max a.s b.s) = Y
  cases a.neg <;> cases b.neg
  · simp only [Bool.false_eq_true, if_false, if_true]
    rw [norm_sign]; simp
  · simp only [Bool.false_eq_true, if_false, if_true]
    by_cases hle : Y ≤ X
    · rw [if_pos hle, norm_sign]
      congr 1; simp; omega
    · rw [if_neg hle, norm_sign]
      congr 1; simp; omega
  · simp only [Bool.false_eq_true, reduceCtorEq, if_false, if_true]
    by_cases hle : Y ≤ X
    · rw [if_pos hle, norm_sign]
      congr 1; simp; omega
    · rw [if_neg hle, norm_sign]
      congr 1; simp; omega
  · simp only [if_true]
    rw [norm_sign]
    congr 1; simp; omega
theorem mul_code (a b : Dc) : mulD a b = norm (a.neg != b.neg) (a.n * b.n) (a.s + b.s) := by
  unfold mulD
  rw [norm_sign]
  congr 1
  unfold Dc.z
  cases a.neg <;> cases b.neg <;> simp [Int.neg_mul, Int.mul_neg]
/-- The same below 0, or above. -/
def turn (d : Dc) : Dc := if d.n = 0 then d else ⟨!d.neg, d.n, d.s⟩
theorem z_turn (d : Dc) : (turn d).z = - d.z ∧ (turn d).s = d.s ∧ (turn d).n = d.n := by
  unfold turn Dc.z
  by_cases h : d.n = 0
  · rw [if_pos h, h]; cases d.neg <;> simp
  · rw [if_neg h]; cases d.neg <;> simp
theorem ok_turn {d : Dc} (h : Ok d) : Ok (turn d) := by
  unfold turn
  by_cases h0 : d.n = 0
  · rw [if_pos h0]; exact h
  · rw [if_neg h0]
    exact ⟨h.1, h.2.1, fun h => absurd h h0, h.2.2.2⟩
theorem sub_turn (a b : Dc) : subD a b = addD a (turn b) := by
  obtain ⟨h1, h2, _⟩ := z_turn b
  unfold subD addD
  rw [h1, h2, Int.neg_mul]
  rfl
theorem turn_code {d : Dc} (h : Ok d) : (turn d).neg = (!d.neg && decide (d.n ≠ 0)) := by
  unfold turn
  by_cases h0 : d.n = 0
  · rw [if_pos h0, (h.2.2.1 h0).2, decide_eq_false (fun h => h h0)]; rfl
  · rw [if_neg h0, decide_eq_true h0, Bool.and_true]
/-- The order, as the code computes it. -/
def clamp (x : Int) : Int := min (max x (-1)) 1
theorem clamp_sgn (x : Int) : clamp x = sgn x := by
  unfold clamp
  rcases sgn_cases x with ⟨h, e⟩ | ⟨h, e⟩ | ⟨h, e⟩ <;> rw [e] <;> omega
theorem cmp_code {a b : Dc} (ha : Ok a) (hb : Ok b) : cmpD a b = clamp (if a.neg ≠ b.neg then (if a.neg then -1 else 1) else if a.neg then -(cmpN (up a (max a.s b.s)) (up b (max a.s b.s))) else cmpN (up a (max a.s b.s)) (up b (max a.s b.s))) := by
  rw [clamp_sgn]
  have e1 : (10 : Int) ^ b.s * 10 ^ max a.s b.s = 10 ^ (max a.s b.s - a.s) * 10 ^ (a.s + b.s) := by
    rw [← Int.pow_add, ← Int.pow_add]; congr 1; omega
  have e2 : (10 : Int) ^ a.s * 10 ^ max a.s b.s = 10 ^ (max a.s b.s - b.s) * 10 ^ (a.s + b.s) := by
    rw [← Int.pow_add, ← Int.pow_add]; congr 1; omega
  have h : cmpD a b = sgn (a.z * 10 ^ (max a.s b.s - a.s) - b.z * 10 ^ (max a.s b.s - b.s)) := by
    unfold cmpD
    rw [← sgn_mul (p10 (max a.s b.s)), Int.sub_mul, Int.mul_assoc, Int.mul_assoc, e1, e2, ← Int.mul_assoc, ← Int.mul_assoc, ← Int.sub_mul, sgn_mul (p10 _)]
  rw [h, z_up, z_up]
  have hs := cmpN_sign (up a (max a.s b.s)) (up b (max a.s b.s))
  have ua : up a (max a.s b.s) = 0 → a.neg = false := fun h0 => by
    unfold up at h0
    rcases Nat.mul_eq_zero.1 h0 with h1 | h1
    · exact (ha.2.2.1 h1).2
    · have := n10 (max a.s b.s - a.s); omega
  have ub : up b (max a.s b.s) = 0 → b.neg = false := fun h0 => by
    unfold up at h0
    rcases Nat.mul_eq_zero.1 h0 with h1 | h1
    · exact (hb.2.2.1 h1).2
    · have := n10 (max a.s b.s - b.s); omega
  generalize up a (max a.s b.s) = X at *
  generalize up b (max a.s b.s) = Y at *
  generalize cmpN X Y = C at *
  have sg : ∀ x y : Int, (x < 0 ↔ y < 0) → (0 < x ↔ 0 < y) → sgn x = sgn y := fun x y h1 h2 => by
    rcases sgn_cases x with ⟨a1, a2⟩ | ⟨a1, a2⟩ | ⟨a1, a2⟩ <;> rcases sgn_cases y with ⟨b1, b2⟩ | ⟨b1, b2⟩ | ⟨b1, b2⟩ <;> omega
  cases hna : a.neg <;> cases hnb : b.neg <;> simp only [Bool.false_eq_true, if_false, if_true, ne_eq, not_true_eq_false, not_false_eq_true, reduceCtorEq]
  · exact sg _ _ (by omega) (by omega)
  · have : Y ≠ 0 := fun h0 => by rw [ub h0] at hnb; cases hnb
    exact sg _ _ (by omega) (by omega)
  · have : X ≠ 0 := fun h0 => by rw [ua h0] at hna; cases hna
    exact sg _ _ (by omega) (by omega)
  · exact sg _ _ (by omega) (by omega)
theorem lim_bound {n : Nat} (h : n < 10 ^ 160) : (limbs n).length ≤ 20 := limbs_len (k := 20) (Nat.lt_of_lt_of_le h (by decide))
theorem val_all (n : Nat) : val (digN ((limbs n).length * 9) n) = n := by
  rw [val_digN]
  apply Nat.mod_eq_of_lt
  have h := lval_lt _ (lims_limbs n)
  rw [lval_limbs] at h
  have e : Bs ^ (limbs n).length = 10 ^ ((limbs n).length * 9) := by
    have : Bs = 10 ^ 9 := by decide
    rw [this, ← Nat.pow_mul, Nat.mul_comm]
  rwa [e] at h
theorem up_lt {d : Dc} (h : Ok d) {S : Nat} (hS : S ≤ 60) : up d S < 10 ^ 120 := by
  unfold up
  have h1 : 10 ^ (S - d.s) ≤ 10 ^ 60 := Nat.pow_le_pow_right (by decide) (by omega)
  have h2 : d.n < 10 ^ 60 := h.1
  have e : (10 : Nat) ^ 120 = 10 ^ 60 * 10 ^ 60 := by decide
  rw [e]
  exact Nat.lt_of_le_of_lt (Nat.mul_le_mul_left _ h1) (Nat.mul_lt_mul_of_pos_right h2 (n10 60))
end Go.Proofs.YtampgimmodomoaaDoor

/- Plain: quotients, what is left, whole numbers near, powers. No program in sight. -/
namespace Go.Proofs.YtampgimmodomoaaDoor

/-- A number of digits of which so many stand behind the point; fewer than none: noughts lack. -/
def scD (neg : Bool) (K : Nat) (sc : Int) : Option Dc := if sc < 0 then norm neg (K * 10 ^ (-sc).toNat) 0 else norm neg K sc.toNat
def stopJ (A B j : Nat) : Prop := A * 10 ^ j % B = 0 ∨ 10 ^ 34 ≤ A * 10 ^ j / B
instance (A B j : Nat) : Decidable (stopJ A B j) := by unfold stopJ; infer_instance
def divJ (A B : Nat) : Nat → Nat → Nat
  | 0, j => j
  | f + 1, j => if stopJ A B j then j else divJ A B f (j + 1)
def quoJ (A B : Nat) : Nat := divJ A B 200 0
theorem divJ_is (A B J : Nat) (h : stopJ A B J) : ∀ f j, j ≤ J → J ≤ j + f → (∀ i, j ≤ i → i < J → ¬ stopJ A B i) → divJ A B f j = J
  | 0, j, h1, h2, _ => by unfold divJ; omega
  | f + 1, j, h1, h2, h3 => by
    unfold divJ
    by_cases hj : stopJ A B j
    · rw [if_pos hj]
      rcases Nat.lt_or_ge j J with h4 | h4
      · exact absurd hj (h3 j (Nat.le_refl _) h4)
      · omega
    · rw [if_neg hj]
      have : j ≠ J := fun e => hj (e ▸ h)
      exact divJ_is A B J h f (j + 1) (by omega) (by omega) (fun i h4 h5 => h3 i (by omega) h5)
theorem quoJ_is {A B J : Nat} (h : stopJ A B J) (hJ : J ≤ 200) (h3 : ∀ i, i < J → ¬ stopJ A B i) : quoJ A B = J :=
  divJ_is A B J h 200 0 (Nat.zero_le _) (by omega) (fun i _ h5 => h3 i h5)
/-- While the division goes on it is not far. -/
theorem go_bound {A B j : Nat} (hB : B < 10 ^ 60) (hB0 : 0 < B) (h : ¬ stopJ A B j) : 0 < A ∧ j < 94 := by
  unfold stopJ at h
  have hA : 0 < A := by
    rcases Nat.eq_zero_or_pos A with e | e
    · subst e; exact absurd (.inl (by simp)) h
    · exact e
  refine ⟨hA, ?_⟩
  have h2 : A * 10 ^ j / B < 10 ^ 34 := Nat.lt_of_not_le (fun h3 => h (.inr h3))
  rw [Nat.div_lt_iff_lt_mul hB0] at h2
  rcases Nat.lt_or_ge j 94 with h4 | h4
  · exact h4
  · exfalso
    have h5 : 10 ^ 94 ≤ 10 ^ j := Nat.pow_le_pow_right (by decide) h4
    have h6 : 10 ^ j ≤ A * 10 ^ j := Nat.le_mul_of_pos_left _ hA
    have h7 : 10 ^ 34 * B < 10 ^ 34 * 10 ^ 60 := Nat.mul_lt_mul_of_pos_left hB (by decide)
    rw [← Nat.pow_add] at h7
    omega
/-- Rounded to 34 places, to the even one of two. -/
def rndUp (V t : Nat) (more : Bool) : Bool := decide (10 ^ t < 2 * (V % 10 ^ t)) || (decide (2 * (V % 10 ^ t) = 10 ^ t) && (more || decide (V / 10 ^ t % 2 = 1)))
def rndT (V : Nat) : Nat := if V < 10 ^ 34 then 0 else (dstr V).length - 34
def rndK (V : Nat) (more : Bool) : Nat := if V < 10 ^ 34 then V else V / 10 ^ rndT V + (if rndUp V (rndT V) more then 1 else 0)
/-- The quotient (of a number that is not nought). -/
def quoV (a b : Dc) : Nat := a.n * 10 ^ quoJ a.n b.n / b.n
def quoM (a b : Dc) : Bool := decide (a.n * 10 ^ quoJ a.n b.n % b.n ≠ 0)
def divD (a b : Dc) : Option Dc := scD (a.neg != b.neg) (rndK (quoV a b) (quoM a b)) ((a.s : Int) - b.s + quoJ a.n b.n - rndT (quoV a b))
/-- What is left (by a number that is not nought). -/
def modD (a b : Dc) : Option Dc := norm a.neg (a.n * 10 ^ b.s % (b.n * 10 ^ a.s)) (a.s + b.s)
/-- The same number below 0, or above. -/
def turnD (d : Dc) : Dc := if d.n = 0 then d else ⟨!d.neg, d.n, d.s⟩
theorem norm_turn (neg : Bool) (n s : Nat) : norm (!neg) n s = (norm neg n s).map turnD := by
  unfold norm
  by_cases h : n = 0
  · rw [if_pos h, if_pos h]; rfl
  · rw [if_neg h, if_neg h]
    split
    · rfl
    · have := redN_ne (s := s) h
      show _ = some (turnD _)
      unfold turnD
      rw [if_neg this]
theorem scD_turn (neg : Bool) (K : Nat) (sc : Int) : scD (!neg) K sc = (scD neg K sc).map turnD := by
  unfold scD
  split <;> exact norm_turn _ _ _
theorem turn_turn (d : Dc) : turnD (turnD d) = d := by
  unfold turnD
  by_cases h : d.n = 0
  · rw [if_pos h, if_pos h]
  · rw [if_neg h, if_neg h]
    simp
theorem turn_n (d : Dc) : (turnD d).n = d.n ∧ (turnD d).s = d.s := by
  unfold turnD
  split <;> exact ⟨rfl, rfl⟩
theorem turn_neg {d : Dc} (h : d.n ≠ 0) : (turnD d).neg = !d.neg := by unfold turnD; rw [if_neg h]
theorem turn_none {d : Dc} (h : d.n = 0) : turnD d = d := by unfold turnD; rw [if_pos h]
theorem turn_ok {d : Dc} (h : Ok d) : Ok (turnD d) := by
  unfold turnD
  by_cases h0 : d.n = 0
  · rw [if_pos h0]; exact h
  · rw [if_neg h0]
    exact ⟨h.1, h.2.1, fun e => absurd e h0, h.2.2.2⟩
theorem turn_z (d : Dc) : (turnD d).z = - d.z := by
  unfold turnD
  by_cases h : d.n = 0
  · rw [if_pos h]
    unfold Dc.z
    rw [h]
    split <;> simp
  · rw [if_neg h]
    unfold Dc.z
    cases d.neg <;> simp
theorem scD_zero (neg : Bool) (sc : Int) : scD neg 0 sc = some zeroD := by
  unfold scD
  split
  · rw [Nat.zero_mul]; exact norm_zero_neg _ _
  · exact norm_zero_neg _ _
theorem quo_zero {a b : Dc} (h : a.n = 0) : quoV a b = 0 ∧ rndK (quoV a b) (quoM a b) = 0 := by
  have e : quoV a b = 0 := by unfold quoV; rw [h, Nat.zero_mul, Nat.zero_div]
  refine ⟨e, ?_⟩
  rw [e]
  unfold rndK
  rw [if_pos (by decide)]
/-- A quotient is turned below 0 as its numbers are. -/
theorem div_turn (a b : Dc) : divD (turnD a) b = (divD a b).map turnD := by
  by_cases h : a.n = 0
  · rw [turn_none h]
    unfold divD
    rw [(quo_zero h).2, scD_zero]
    rfl
  · have e1 := turn_n a
    unfold divD quoV quoM
    rw [e1.1, e1.2, turn_neg h]
    have : ((!a.neg) != b.neg) = !(a.neg != b.neg) := by cases a.neg <;> cases b.neg <;> rfl
    rw [this, scD_turn]
theorem div_turn2 {a b : Dc} (hb : b.n ≠ 0) : divD (turnD a) (turnD b) = divD a b := by
  by_cases h : a.n = 0
  · have e : (turnD a).n = 0 := by rw [(turn_n a).1, h]
    unfold divD
    rw [(quo_zero h).2, (quo_zero e).2, scD_zero, scD_zero]
  · have e1 := turn_n a
    have e2 := turn_n b
    unfold divD quoV quoM
    rw [e1.1, e1.2, e2.1, e2.2, turn_neg h, turn_neg hb]
    have : ((!a.neg) != !b.neg) = (a.neg != b.neg) := by cases a.neg <;> cases b.neg <;> rfl
    rw [this]
theorem scD_pow (neg : Bool) (K m : Nat) (sc : Int) : scD neg (K * 10 ^ m) (sc + m) = scD neg K sc := by
  unfold scD
  by_cases h1 : sc < 0
  · rw [if_pos h1]
    by_cases h2 : sc + m < 0
    · rw [if_pos h2, Nat.mul_assoc, ← Nat.pow_add]
      congr 3
      omega
    · rw [if_neg h2]
      obtain ⟨x, hx⟩ : ∃ x : Nat, (-sc).toNat = x := ⟨_, rfl⟩
      have e : m = x + (sc + m).toNat := by omega
      have := norm_pow neg (K * 10 ^ x) 0 (sc + m).toNat
      rw [Nat.zero_add, Nat.mul_assoc, ← Nat.pow_add, ← e] at this
      rw [hx, this]
  · rw [if_neg h1, if_neg (by omega)]
    have e : (sc + m).toNat = sc.toNat + m := by omega
    rw [e, norm_pow]
theorem scD_self {d : Dc} (h : Ok d) (neg : Bool) (hn : d.n ≠ 0 → neg = d.neg) : scD neg d.n d.s = some d := by
  unfold scD
  rw [if_neg (by omega), Int.toNat_natCast]
  have e := normZ_self h
  obtain ⟨e1, e2⟩ := z_neg h
  unfold normZ at e
  rw [e1, e2] at e
  by_cases h0 : d.n = 0
  · rw [← e, h0, norm_zero_neg, norm_zero_neg]
  · rw [hn h0, e]
/-- Of a product divided by the second the first is left, if it has not too many digits. -/
theorem div_mul {a b p : Dc} (ha : Ok a) (hb : Ok b) (hb0 : b.n ≠ 0) (hp : mulD a b = some p) (hl : a.n < 10 ^ 34) : divD p b = some a := by
  unfold mulD normZ at hp
  obtain ⟨za1, za2⟩ := z_neg ha
  obtain ⟨zb1, zb2⟩ := z_neg hb
  rw [Int.natAbs_mul, za2, zb2] at hp
  obtain ⟨pok, p0, pneg, k, e1, e2⟩ := norm_ok hp
  by_cases h0 : a.n = 0
  · have hp0 : p.n = 0 := p0.2 (by rw [h0, Nat.zero_mul])
    unfold divD
    rw [(quo_zero hp0).2, scD_zero]
    have := scD_self ha false (fun h => absurd h0 h)
    rw [h0, scD_zero] at this
    exact this
  · have hne : a.n * b.n ≠ 0 := Nat.mul_ne_zero h0 hb0
    have hs := e2 hne
    have hB : 0 < b.n := Nat.pos_of_ne_zero hb0
    have hneg : (p.neg != b.neg) = a.neg := by
      rw [pneg hne]
      have : decide (a.z * b.z < 0) = (a.neg != b.neg) := by
        have az : a.z ≠ 0 := by omega
        have bz : b.z ≠ 0 := by omega
        rw [← za1, ← zb1]
        by_cases h1 : a.z < 0 <;> by_cases h2 : b.z < 0
        · have := Int.mul_pos_of_neg_of_neg h1 h2
          rw [decide_eq_false (by omega), decide_eq_true h1, decide_eq_true h2]; rfl
        · have := Int.mul_neg_of_neg_of_pos h1 (show 0 < b.z by omega)
          rw [decide_eq_true this, decide_eq_true h1, decide_eq_false h2]; rfl
        · have := Int.mul_neg_of_pos_of_neg (show 0 < a.z by omega) h2
          rw [decide_eq_true this, decide_eq_false h1, decide_eq_true h2]; rfl
        · have := Int.mul_pos (show 0 < a.z by omega) (show 0 < b.z by omega)
          rw [decide_eq_false (by omega), decide_eq_false h1, decide_eq_false h2]; rfl
      rw [this]
      cases a.neg <;> cases b.neg <;> rfl
    -- the place where nothing is left
    have hstop : stopJ p.n b.n k := .inl (by rw [← e1]; exact Nat.mul_mod_left _ _)
    obtain ⟨J, hJ1, hJ2, hJ3⟩ : ∃ J, J ≤ k ∧ stopJ p.n b.n J ∧ ∀ i, i < J → ¬ stopJ p.n b.n i := by
      clear hneg e2 hs pneg
      have : ∀ n, (∃ J, J ≤ n ∧ stopJ p.n b.n J ∧ ∀ i, i < J → ¬ stopJ p.n b.n i) ∨ ∀ i, i ≤ n → ¬ stopJ p.n b.n i := by
        intro n
        induction n with
        | zero =>
          by_cases h : stopJ p.n b.n 0
          · exact .inl ⟨0, Nat.le_refl _, h, fun i hi => by omega⟩
          · exact .inr (fun i hi => by have : i = 0 := by omega
                                       rw [this]; exact h)
        | succ n ih =>
          rcases ih with ⟨J, h1, h2, h3⟩ | h1
          · exact .inl ⟨J, by omega, h2, h3⟩
          · by_cases h : stopJ p.n b.n (n + 1)
            · exact .inl ⟨n + 1, Nat.le_refl _, h, fun i hi => h1 i (by omega)⟩
            · exact .inr (fun i hi => by
                rcases Nat.lt_or_ge i (n + 1) with h4 | h4
                · exact h1 i (by omega)
                · have : i = n + 1 := by omega
                  rw [this]; exact h)
      rcases this k with h | h
      · exact h
      · exact absurd hstop (h k (Nat.le_refl _))
    have hk : J ≤ 200 := by
      rcases Nat.eq_zero_or_pos J with e | e
      · omega
      · have := go_bound hb.1 hB (hJ3 (J - 1) (by omega)); omega
    have hq := quoJ_is hJ2 hk hJ3
    -- there the quotient is the first, without noughts at its end
    have hsplit : p.n * 10 ^ J * 10 ^ (k - J) = a.n * b.n := by
      rw [Nat.mul_assoc, ← Nat.pow_add, e1]
      congr 2
      omega
    have hVlt : p.n * 10 ^ J / b.n < 10 ^ 34 := by
      rw [Nat.div_lt_iff_lt_mul hB]
      have h1 : p.n * 10 ^ J ≤ a.n * b.n := by rw [← hsplit]; exact Nat.le_mul_of_pos_right _ (n10 _)
      have h2 : a.n * b.n < 10 ^ 34 * b.n := Nat.mul_lt_mul_of_pos_right hl hB
      omega
    have hrest : p.n * 10 ^ J % b.n = 0 := by
      rcases hJ2 with h | h
      · exact h
      · omega
    have hV : p.n * 10 ^ J / b.n * 10 ^ (k - J) = a.n := by
      have h1 : p.n * 10 ^ J / b.n * b.n = p.n * 10 ^ J := Nat.div_mul_cancel (Nat.dvd_of_mod_eq_zero hrest)
      have h2 : p.n * 10 ^ J / b.n * 10 ^ (k - J) * b.n = a.n * b.n := by
        rw [← hsplit, Nat.mul_right_comm, h1]
      exact Nat.eq_of_mul_eq_mul_right hB h2
    unfold divD
    have hqv : quoV p b = p.n * 10 ^ J / b.n := by unfold quoV; rw [hq]
    have hT : rndT (quoV p b) = 0 := by unfold rndT; rw [hqv, if_pos hVlt]
    have hK : rndK (quoV p b) (quoM p b) = p.n * 10 ^ J / b.n := by unfold rndK; rw [hqv, if_pos hVlt]
    rw [hT, hK, hq, hneg]
    have e3 := scD_pow a.neg (p.n * 10 ^ J / b.n) (k - J) ((p.s : Int) - b.s + J - (0 : Nat))
    rw [hV] at e3
    rw [← e3, show (p.s : Int) - b.s + J - (0 : Nat) + (k - J : Nat) = (a.s : Int) by omega]
    exact scD_self ha _ (fun _ => rfl)
/-- What is left, told by what it is. -/
theorem mod_is {a b m : Dc} (hb0 : b.n ≠ 0) (hm : Ok m) (q : Nat) (hneg : m.n ≠ 0 → m.neg = a.neg) (h1 : a.n * 10 ^ b.s * 10 ^ m.s = q * (b.n * 10 ^ a.s) * 10 ^ m.s + m.n * 10 ^ (a.s + b.s)) (h2 : m.n * 10 ^ b.s < b.n * 10 ^ m.s) : modD a b = some m := by
  have hY : 0 < b.n * 10 ^ a.s := Nat.mul_pos (Nat.pos_of_ne_zero hb0) (n10 _)
  have hlt : m.n * 10 ^ (a.s + b.s) < b.n * 10 ^ a.s * 10 ^ m.s := by
    have := Nat.mul_lt_mul_of_pos_right h2 (n10 a.s)
    rw [Nat.pow_add]
    have e1 : m.n * (10 ^ a.s * 10 ^ b.s) = m.n * 10 ^ b.s * 10 ^ a.s := by grind
    have e2 : b.n * 10 ^ a.s * 10 ^ m.s = b.n * 10 ^ m.s * 10 ^ a.s := by grind
    rw [e1, e2]
    exact this
  have e : a.n * 10 ^ b.s % (b.n * 10 ^ a.s) * 10 ^ m.s = m.n * 10 ^ (a.s + b.s) := by
    rw [← Nat.mul_mod_mul_right, h1, Nat.mul_assoc q, Nat.add_comm, Nat.add_mul_mod_self_right, Nat.mod_eq_of_lt hlt]
  unfold modD
  have := norm_pow a.neg (a.n * 10 ^ b.s % (b.n * 10 ^ a.s)) (a.s + b.s) m.s
  rw [← this, e, Nat.add_comm (a.s + b.s), norm_pow]
  have e3 := scD_self hm a.neg (fun h => (hneg h).symm)
  unfold scD at e3
  rw [if_neg (by omega), Int.toNat_natCast] at e3
  exact e3
theorem mod_ok {a b m : Dc} (hb0 : b.n ≠ 0) (h : modD a b = some m) : Ok m ∧ (m.n ≠ 0 → m.neg = a.neg) ∧ m.n * 10 ^ b.s < b.n * 10 ^ m.s ∧ ∃ q, a.n * 10 ^ b.s * 10 ^ m.s = q * (b.n * 10 ^ a.s) * 10 ^ m.s + m.n * 10 ^ (a.s + b.s) := by
  unfold modD at h
  have hY : 0 < b.n * 10 ^ a.s := Nat.mul_pos (Nat.pos_of_ne_zero hb0) (n10 _)
  obtain ⟨mok, m0, mneg, k, e1, e2⟩ := norm_ok h
  have hr : m.n * 10 ^ (a.s + b.s) = a.n * 10 ^ b.s % (b.n * 10 ^ a.s) * 10 ^ m.s := by
    by_cases h0 : a.n * 10 ^ b.s % (b.n * 10 ^ a.s) = 0
    · rw [h0, m0.2 h0]; simp
    · rw [e2 h0, Nat.pow_add, Nat.mul_comm (10 ^ m.s), ← Nat.mul_assoc, ← e1]
  refine ⟨mok, fun h => mneg (fun h2 => h (m0.2 h2)), ?_, a.n * 10 ^ b.s / (b.n * 10 ^ a.s), ?_⟩
  · have h1 := Nat.mul_lt_mul_of_pos_right (Nat.mod_lt (a.n * 10 ^ b.s) hY) (n10 m.s)
    rw [← hr] at h1
    have h3 : m.n * 10 ^ b.s * 10 ^ a.s < b.n * 10 ^ m.s * 10 ^ a.s := by
      rw [Nat.pow_add] at h1
      have f1 : m.n * (10 ^ a.s * 10 ^ b.s) = m.n * 10 ^ b.s * 10 ^ a.s := by grind
      have f2 : b.n * 10 ^ a.s * 10 ^ m.s = b.n * 10 ^ m.s * 10 ^ a.s := by grind
      rw [f1, f2] at h1
      exact h1
    exact Nat.lt_of_mul_lt_mul_right h3
  · rw [hr, ← Nat.add_mul]
    congr 1
    have := Nat.div_add_mod (a.n * 10 ^ b.s) (b.n * 10 ^ a.s)
    rw [Nat.mul_comm (a.n * 10 ^ b.s / (b.n * 10 ^ a.s))]
    exact this.symm
/-- What is left is never too much. -/
theorem mod_some {a b : Dc} (ha : Ok a) (hb : Ok b) (hb0 : b.n ≠ 0) : ∃ m, modD a b = some m := by
  have hY : 0 < b.n * 10 ^ a.s := Nat.mul_pos (Nat.pos_of_ne_zero hb0) (n10 _)
  obtain ⟨R, S, hR, hS, e⟩ : ∃ R S, R < topN ∧ S ≤ 60 ∧ modD a b = norm a.neg R S := by
    unfold modD
    rcases Nat.le_total a.s b.s with h | h
    · refine ⟨a.n * 10 ^ (b.s - a.s) % b.n, b.s, Nat.lt_trans (Nat.mod_lt _ (Nat.pos_of_ne_zero hb0)) hb.1, hb.2.1, ?_⟩
      rw [← norm_pow a.neg (a.n * 10 ^ (b.s - a.s) % b.n) b.s a.s, ← Nat.mul_mod_mul_right, Nat.mul_assoc, ← Nat.pow_add, Nat.sub_add_cancel h, Nat.add_comm]
    · refine ⟨a.n % (b.n * 10 ^ (a.s - b.s)), a.s, Nat.lt_of_le_of_lt (Nat.mod_le _ _) ha.1, ha.2.1, ?_⟩
      rw [← norm_pow a.neg (a.n % (b.n * 10 ^ (a.s - b.s))) a.s b.s, ← Nat.mul_mod_mul_right, Nat.mul_assoc, ← Nat.pow_add, Nat.sub_add_cancel h]
  rw [e]
  unfold norm
  by_cases h0 : R = 0
  · rw [if_pos h0]; exact ⟨_, rfl⟩
  · rw [if_neg h0]
    obtain ⟨k, e1, e2⟩ := redN_val S R
    rw [if_neg (by
      rintro (h | h)
      · have : (redN R S).1 ≤ R := by
          have := Nat.le_mul_of_pos_right (redN R S).1 (n10 k)
          omega
        omega
      · omega)]
    exact ⟨_, rfl⟩
end Go.Proofs.YtampgimmodomoaaDoor

/- Plain: whole numbers near a decimal, powers, and the laws of what is left. No program in sight. -/
namespace Go.Proofs.YtampgimmodomoaaDoor

/-- The part ahead of the point. -/
def wholeD (d : Dc) : Dc := ⟨d.neg && decide (d.n / 10 ^ d.s ≠ 0), d.n / 10 ^ d.s, 0⟩
/-- The first digit behind the point. -/
def tenthD (d : Dc) : Nat := d.n * 10 / 10 ^ d.s % 10
def nearD (d : Dc) (far : Bool) : Option Dc := if far then addD (wholeD d) ⟨d.neg, 1, 0⟩ else some (wholeD d)
def floorD (d : Dc) : Option Dc := nearD d (d.neg && decide (0 < d.s))
def ceilD (d : Dc) : Option Dc := nearD d (!d.neg && decide (0 < d.s))
def roundD (d : Dc) : Option Dc := nearD d (decide (5 ≤ tenthD d))
theorem whole_lt (d : Dc) : d.n / 10 ^ d.s ≤ d.n := Nat.div_le_self _ _
theorem whole_ok {d : Dc} (h : Ok d) : Ok (wholeD d) :=
  ⟨Nat.lt_of_le_of_lt (whole_lt d) h.1, Nat.zero_le _, fun e => ⟨rfl, by
    have : d.n / 10 ^ d.s = 0 := e
    show (d.neg && decide (d.n / 10 ^ d.s ≠ 0)) = false
    rw [this]; simp⟩, .inl rfl⟩
theorem whole_self {d : Dc} (h : Ok d) (hs : d.s = 0) : wholeD d = d := by
  obtain ⟨neg, n, s⟩ := d
  dsimp only at hs
  subst hs
  have h3 := h.2.2.1
  dsimp only at h3
  unfold wholeD
  simp only [Nat.pow_zero, Nat.div_one, Dc.mk.injEq, and_true]
  by_cases h0 : n = 0
  · rw [(h3 h0).2]; rfl
  · rw [decide_eq_true h0, Bool.and_true]
theorem norm_whole {d : Dc} (h : Ok d) : norm d.neg (d.n / 10 ^ d.s) 0 = some (wholeD d) := by
  have h1 := whole_ok h
  have h2 := scD_self h1 d.neg (fun hn => by
    have : d.n / 10 ^ d.s ≠ 0 := hn
    show d.neg = (d.neg && decide (d.n / 10 ^ d.s ≠ 0))
    rw [decide_eq_true this, Bool.and_true])
  unfold scD at h2
  rw [if_neg (by show ¬ ((0 : Nat) : Int) < 0; omega)] at h2
  exact h2
theorem whole_z (d : Dc) : (wholeD d).z = (if d.neg then -((d.n / 10 ^ d.s : Nat) : Int) else ((d.n / 10 ^ d.s : Nat) : Int)) := by
  unfold wholeD Dc.z
  by_cases h : d.n / 10 ^ d.s = 0
  · dsimp only
    rw [h]; simp
  · dsimp only
    rw [decide_eq_true h, Bool.and_true]
def oneD (neg : Bool) : Dc := ⟨neg, 1, 0⟩
theorem one_z (neg : Bool) : (oneD neg).z = if neg then -1 else 1 := by cases neg <;> rfl
theorem intD_z {d : Dc} (h : Ok d) (hs : d.s = 0) : d = intD d.z := by
  obtain ⟨e1, e2⟩ := z_neg h
  obtain ⟨neg, n, s⟩ := d
  dsimp only at hs e1 e2
  subst hs
  unfold intD
  rw [e1, e2]
/-- One farther from nought: what is ahead of the point is small, where something is behind it. -/
theorem far_some {d : Dc} (h : Ok d) (hs : 0 < d.s) : nearD d true = some (intD ((wholeD d).z + (oneD d.neg).z)) ∧ ((wholeD d).z + (oneD d.neg).z).natAbs < topN := by
  have hlt : d.n / 10 ^ d.s + 1 < topN := by
    have h1 : d.n / 10 ^ d.s ≤ d.n / 10 := by
      obtain ⟨t, ht⟩ : ∃ t, d.s = t + 1 := ⟨d.s - 1, by omega⟩
      rw [ht, Nat.pow_succ, Nat.mul_comm, ← Nat.div_div_eq_div_mul]
      exact Nat.div_le_self _ _
    have h2 := h.1
    unfold topN at *
    omega
  have hb : ((wholeD d).z + (oneD d.neg).z).natAbs < topN := by
    rw [whole_z, one_z]
    obtain ⟨Q, hQ⟩ : ∃ Q : Nat, Q = d.n / 10 ^ d.s := ⟨_, rfl⟩
    rw [← hQ] at hlt ⊢
    cases d.neg with
    | true =>
      simp only [if_true]
      omega
    | false =>
      simp only [Bool.false_eq_true, if_false]
      omega
  refine ⟨?_, hb⟩
  have e1 := intD_z (whole_ok h) rfl
  have e2 : oneD d.neg = intD (oneD d.neg).z := by cases d.neg <;> rfl
  show addD (wholeD d) (oneD d.neg) = _
  have := add_int hb
  rw [← e1, ← e2] at this
  exact this
theorem near_z {d : Dc} (h : Ok d) (far : Bool) (hf : far = true → 0 < d.s) : nearD d far = some (intD ((wholeD d).z + if far then (oneD d.neg).z else 0)) := by
  cases far with
  | true => exact (far_some h (hf rfl)).1
  | false =>
    show some (wholeD d) = _
    rw [if_neg (by simp), Int.add_zero, ← intD_z (whole_ok h) rfl]
theorem tenth_far {d : Dc} (h : 5 ≤ tenthD d) : 0 < d.s := by
  rcases Nat.eq_zero_or_pos d.s with e | e
  · unfold tenthD at h
    rw [e] at h
    simp at h
  · exact e
theorem floor_z {d : Dc} (h : Ok d) : floorD d = some (intD ((wholeD d).z + if (d.neg && decide (0 < d.s)) then -1 else 0)) := by
  unfold floorD
  rw [near_z h _ (fun e => by simp at e; exact e.2)]
  congr 3
  cases hn : d.neg with
  | true => rw [one_z]; rfl
  | false => rfl
theorem ceil_z {d : Dc} (h : Ok d) : ceilD d = some (intD ((wholeD d).z + if (!d.neg && decide (0 < d.s)) then 1 else 0)) := by
  unfold ceilD
  rw [near_z h _ (fun e => by simp at e; exact e.2)]
  congr 3
  cases hn : d.neg with
  | true => rfl
  | false => rw [one_z]; rfl
theorem whole_turn (d : Dc) : (wholeD (turnD d)).z = -(wholeD d).z := by
  rw [whole_z, whole_z, (turn_n d).1, (turn_n d).2]
  by_cases h : d.n = 0
  · rw [h, Nat.zero_div]
    simp
  · rw [turn_neg h]
    cases d.neg <;> simp
theorem intD_turn (x : Int) : turnD (intD x) = intD (-x) := by
  unfold turnD intD
  by_cases h : x = 0
  · subst h; rfl
  · rw [if_neg (by show ¬ x.natAbs = 0; omega)]
    dsimp only
    rw [Int.natAbs_neg]
    congr 1
    by_cases h2 : x < 0
    · rw [decide_eq_true h2, decide_eq_false (by omega)]; rfl
    · rw [decide_eq_false h2, decide_eq_true (by omega)]; rfl
/-- Ceil is Floor seen from the other side. -/
theorem ceil_turn {d : Dc} (h : Ok d) : ceilD d = (floorD (turnD d)).map turnD := by
  rw [ceil_z h, floor_z (turn_ok h), whole_turn, (turn_n d).2]
  show _ = some (turnD (intD _))
  rw [intD_turn]
  congr 2
  by_cases h0 : d.n = 0
  · have hs := (h.2.2.1 h0)
    rw [hs.1]
    simp
  · rw [turn_neg h0]
    split <;> omega
/-- Where nothing stands behind the point a number is its own Floor, and Ceil. -/
theorem near_same {d : Dc} (h : Ok d) (hs : d.s = 0) : floorD d = some d ∧ ceilD d = some d := by
  unfold floorD ceilD
  rw [hs]
  simp only [Nat.lt_irrefl, decide_false, Bool.and_false]
  exact ⟨congrArg some (whole_self h hs), congrArg some (whole_self h hs)⟩
theorem round_one (d : Dc) : roundD d = floorD d ∨ roundD d = ceilD d := by
  unfold roundD floorD ceilD
  by_cases h5 : 5 ≤ tenthD d
  · have hs := tenth_far h5
    rw [decide_eq_true h5, decide_eq_true hs]
    cases d.neg <;> simp
  · rw [decide_eq_false h5]
    by_cases hs : 0 < d.s
    · rw [decide_eq_true hs]
      cases d.neg <;> simp
    · rw [decide_eq_false hs]
      left
      simp
/-- Where something stands behind the point they are one apart, and the number lies between. -/
theorem near_apart {d : Dc} (h : Ok d) (hs : 0 < d.s) : ∃ f c, floorD d = some f ∧ ceilD d = some c ∧ f.s = 0 ∧ c.s = 0 ∧ Ok f ∧ Ok c ∧ addD f (oneD false) = some c ∧ cmpD f d = -1 ∧ cmpD d c = -1 := by
  have hf := floor_z h
  have hc := ceil_z h
  have hb := (far_some h hs).2
  have hwz := whole_z d
  have hlt := Nat.lt_of_le_of_lt (whole_lt d) h.1
  -- the digits behind the point are not noughts
  have hp := n10 d.s
  have hmod : d.n % 10 ^ d.s ≠ 0 := by
    have h4 := h.2.2.2
    obtain ⟨t, ht⟩ : ∃ t, d.s = t + 1 := ⟨d.s - 1, by omega⟩
    rw [ht, Nat.pow_succ]
    intro e
    have := Nat.mod_mul_left_mod d.n (10 ^ t) 10
    rw [e] at this
    simp at this
    omega
  have hdm := Nat.div_add_mod d.n (10 ^ d.s)
  have hml := Nat.mod_lt d.n hp
  have lo : 10 ^ d.s * (d.n / 10 ^ d.s) < d.n := by omega
  have hi : d.n < 10 ^ d.s * (d.n / 10 ^ d.s) + 10 ^ d.s := by omega
  obtain ⟨Q, hQ⟩ : ∃ Q, Q = d.n / 10 ^ d.s := ⟨_, rfl⟩
  rw [← hQ] at hwz lo hi hlt
  have lo2 : (10 ^ d.s : Int) * Q < d.n := by
    have := Int.ofNat_lt.2 lo
    simpa using this
  have hi2 : (d.n : Int) < 10 ^ d.s * Q + 10 ^ d.s := by
    have := Int.ofNat_lt.2 hi
    simpa using this
  obtain ⟨P, hP⟩ : ∃ P : Int, P = 10 ^ d.s := ⟨_, rfl⟩
  rw [← hP] at lo2 hi2
  have e0 : decide (0 < d.s) = true := decide_eq_true hs
  rw [e0] at hf hc
  rw [one_z] at hb
  have key : ∃ F : Int, floorD d = some (intD F) ∧ ceilD d = some (intD (F + 1)) ∧ F.natAbs < topN ∧ (F + 1).natAbs < topN ∧ F * P < d.z ∧ d.z < (F + 1) * P := by
    unfold Dc.z
    cases hn : d.neg with
    | true =>
      rw [hn] at hf hc hwz hb
      simp only [Bool.and_true, Bool.not_true, Bool.false_eq_true, if_false, if_true, Int.add_zero] at hf hc hwz hb
      refine ⟨(wholeD d).z + -1, hf, by rw [hc]; congr 2; omega, hb, by rw [hwz]; omega, ?_, ?_⟩
      · rw [hwz, if_pos rfl]
        have : (-(Q : Int) + -1) * P = -(P * Q) - P := by grind
        omega
      · rw [hwz, if_pos rfl]
        have : (-(Q : Int) + -1 + 1) * P = -(P * Q) := by grind
        omega
    | false =>
      rw [hn] at hf hc hwz hb
      simp only [Bool.and_true, Bool.not_false, Bool.false_eq_true, if_false, if_true, Int.add_zero] at hf hc hwz hb
      refine ⟨(wholeD d).z, hf, hc, by rw [hwz]; omega, hb, ?_, ?_⟩
      · rw [hwz, if_neg (by simp)]
        have : (Q : Int) * P = P * Q := Int.mul_comm _ _
        omega
      · rw [hwz, if_neg (by simp)]
        have : ((Q : Int) + 1) * P = P * Q + P := by grind
        omega
  obtain ⟨F, k1, k2, k3, k4, k5, k6⟩ := key
  refine ⟨intD F, intD (F + 1), k1, k2, rfl, rfl, ok_int k3, ok_int k4, add_int k4, ?_, ?_⟩
  · unfold cmpD
    rw [z_int]
    have e : (intD F).s = 0 := rfl
    rw [e, Int.pow_zero, Int.mul_one, ← hP]
    exact if_pos (by omega)
  · unfold cmpD
    rw [z_int]
    have e : (intD (F + 1)).s = 0 := rfl
    rw [e, Int.pow_zero, Int.mul_one, ← hP]
    exact if_pos (by omega)
/-- A number multiplied by itself again and again. -/
def powD (d : Dc) : Nat → Option Dc
  | 0 => some (intD 1)
  | k + 1 => (powD d k).bind fun p => mulD p d
theorem pow_one : ∀ k, powD (intD 1) k = some (intD 1)
  | 0 => rfl
  | k + 1 => by
    unfold powD
    rw [pow_one k]
    exact mul_int (x := 1) (y := 1) (by decide)
theorem pow_ok {d p : Dc} : ∀ {k}, powD d k = some p → Ok p
  | 0, h => by injection h with h; rw [← h]; exact ok_int (by decide)
  | k + 1, h => by
    unfold powD at h
    cases hp : powD d k with
    | none => rw [hp] at h; cases h
    | some q => rw [hp] at h; exact (mulD_ok h).1
/-- What is left by a number is less than it. -/
theorem mod_less {a b m : Dc} (hb0 : b.n ≠ 0) (h : modD a b = some m) : cmpD ⟨false, m.n, m.s⟩ ⟨false, b.n, b.s⟩ = -1 := by
  obtain ⟨_, _, h2, _⟩ := mod_ok hb0 h
  unfold cmpD Dc.z
  simp only [Bool.false_eq_true, if_false]
  have : (m.n : Int) * 10 ^ b.s < (b.n : Int) * 10 ^ m.s := by
    have := Int.ofNat_lt.2 h2
    simpa using this
  exact if_pos (by omega)
/-- Of a product the second leaves nothing, if it is whole. -/
theorem mod_mul {a b p : Dc} (ha : Ok a) (hb : Ok b) (ha0 : a.n ≠ 0) (hbs : b.s = 0) (hp : mulD a b = some p) : modD p a = some zeroD := by
  unfold mulD normZ at hp
  obtain ⟨za1, za2⟩ := z_neg ha
  obtain ⟨zb1, zb2⟩ := z_neg hb
  rw [Int.natAbs_mul, za2, zb2] at hp
  obtain ⟨pok, p0, _, k, e1, e2⟩ := norm_ok hp
  refine mod_is ha0 ok_zero b.n (fun h => absurd rfl h) ?_ ?_
  · have ez : zeroD.s = 0 := rfl
    have en : zeroD.n = 0 := rfl
    rw [ez, en]
    simp only [Nat.pow_zero, Nat.mul_one, Nat.zero_mul, Nat.add_zero]
    by_cases hb0 : b.n = 0
    · rw [p0.2 (by rw [hb0, Nat.mul_zero]), hb0]
      simp
    · have h3 := e2 (Nat.mul_ne_zero ha0 hb0)
      rw [hbs, Nat.add_zero] at h3
      rw [h3, Nat.pow_add]
      have : b.n * (a.n * 10 ^ p.s) = (a.n * b.n) * 10 ^ p.s := by grind
      rw [this, e1]
      grind
  · have ez : zeroD.s = 0 := rfl
    have en : zeroD.n = 0 := rfl
    rw [ez, en, Nat.zero_mul, Nat.pow_zero, Nat.mul_one]
    exact Nat.pos_of_ne_zero ha0
/-- What is left by one number goes round. -/
theorem mod_round {a b m t s : Dc} {k : Nat} (hb0 : b.n ≠ 0) (an : a.neg = false) (sn : s.neg = false) (hm : modD a b = some m) (ht : t.n * 10 ^ b.s = b.n * k * 10 ^ t.s) (hs : s.n * (10 ^ a.s * 10 ^ t.s) = (a.n * 10 ^ t.s + t.n * 10 ^ a.s) * 10 ^ s.s) : modD s b = some m := by
  obtain ⟨mok, mneg, h2, q, h1⟩ := mod_ok hb0 hm
  refine mod_is hb0 mok (q + k) (fun h => by rw [mneg h, an, sn]) ?_ h2
  have pa := n10 a.s; have pb := n10 b.s; have pm := n10 m.s; have pt := n10 t.s; have ps := n10 s.s
  rw [Nat.pow_add] at h1 ⊢
  generalize 10 ^ a.s = A at *
  generalize 10 ^ b.s = B at *
  generalize 10 ^ m.s = M at *
  generalize 10 ^ t.s = T at *
  generalize 10 ^ s.s = S at *
  refine Nat.eq_of_mul_eq_mul_right (Nat.mul_pos pa pt) ?_
  have e1 : s.n * B * M * (A * T) = B * M * (s.n * (A * T)) := by grind
  rw [e1, hs]
  have e2 : B * M * ((a.n * T + t.n * A) * S) = S * T * (a.n * B * M) + S * A * M * (t.n * B) := by grind
  rw [e2, h1, ht]
  grind
theorem mod_again {a b m : Dc} (hb0 : b.n ≠ 0) (hm : modD a b = some m) : modD m b = some m := by
  obtain ⟨mok, mneg, h2, q, h1⟩ := mod_ok hb0 hm
  refine mod_is hb0 mok 0 (fun _ => rfl) ?_ h2
  rw [Nat.pow_add]
  grind
theorem mod_le {a b m : Dc} (hb0 : b.n ≠ 0) (an : a.neg = false) (hm : modD a b = some m) : cmpD m a ≤ 0 := by
  obtain ⟨mok, mneg, h2, q, h1⟩ := mod_ok hb0 hm
  have hmn : m.neg = false := by
    by_cases h0 : m.n = 0
    · exact (mok.2.2.1 h0).2
    · rw [mneg h0, an]
  have h3 : m.n * 10 ^ a.s ≤ a.n * 10 ^ m.s := by
    rw [Nat.pow_add] at h1
    have e1 : a.n * 10 ^ b.s * 10 ^ m.s = a.n * 10 ^ m.s * 10 ^ b.s := by grind
    have e2 : m.n * (10 ^ a.s * 10 ^ b.s) = m.n * 10 ^ a.s * 10 ^ b.s := by grind
    rw [e1, e2] at h1
    have : m.n * 10 ^ a.s * 10 ^ b.s ≤ a.n * 10 ^ m.s * 10 ^ b.s := by omega
    exact Nat.le_of_mul_le_mul_right this (n10 b.s)
  unfold cmpD Dc.z
  rw [hmn, an]
  simp only [Bool.false_eq_true, if_false]
  have h4 : (m.n : Int) * 10 ^ a.s ≤ (a.n : Int) * 10 ^ m.s := by
    have := Int.ofNat_le.2 h3
    simpa using this
  rcases sgn_cases ((m.n : Int) * 10 ^ a.s - (a.n : Int) * 10 ^ m.s) with ⟨_, e⟩ | ⟨_, e⟩ | ⟨h5, e⟩ <;> omega
end Go.Proofs.YtampgimmodomoaaDoor

/- Plain: digits rounded to 34 places, and one added to digits. No program in sight. -/
namespace Go.Proofs.YtampgimmodomoaaDoor

/-- One added from place i downward: behind it there were nines, and are noughts. -/
def IncI (H h : List UInt8) (i : Nat) : Prop := i < H.length ∧ h = H.take (i + 1) ++ List.replicate (H.length - (i + 1)) 48 ∧ H.drop (i + 1) = List.replicate (H.length - (i + 1)) 57
theorem IncI.start {H : List UInt8} (h : H ≠ []) : IncI H H (H.length - 1) := by
  have : 0 < H.length := List.length_pos_iff.2 h
  have e : H.length - 1 + 1 = H.length := by omega
  refine ⟨by omega, ?_, ?_⟩
  · rw [e, Nat.sub_self, List.take_length]; simp
  · rw [e, Nat.sub_self, List.drop_length]; rfl
theorem IncI.get {H h : List UInt8} {i : Nat} (k : IncI H h i) : h.length = H.length ∧ h.getD i 0 = H.getD i 0 := by
  obtain ⟨k1, rfl, _⟩ := k
  refine ⟨by rw [List.length_append, List.length_take, List.length_replicate]; omega, ?_⟩
  rw [List.getD_eq_getElem?_getD, List.getElem?_append_left (by rw [List.length_take]; omega), List.getElem?_take, if_pos (by omega), ← List.getD_eq_getElem?_getD]
theorem IncI.next {H h : List UInt8} {i : Nat} (k : IncI H h (i + 1)) (h9 : H.getD (i + 1) 0 = 57) : IncI H (h.set (i + 1) 48) i := by
  obtain ⟨k1, rfl, k3⟩ := k
  have hg : H[i + 1]'k1 = 57 := by rw [List.getD_eq_getElem?_getD, List.getElem?_eq_getElem k1] at h9; exact h9
  have e : H.length - (i + 1) = H.length - (i + 1 + 1) + 1 := by omega
  refine ⟨by omega, ?_, ?_⟩
  · rw [← List.take_append_getElem k1, List.append_assoc, List.set_append_right _ _ (by rw [List.length_take]; omega), List.length_take, Nat.min_eq_left (by omega), Nat.sub_self, e, List.replicate_succ]
    rfl
  · rw [List.drop_eq_getElem_cons k1, hg, k3, e, List.replicate_succ]
theorem val_nines : ∀ n, val (List.replicate n 57) + 1 = 10 ^ n
  | 0 => rfl
  | n + 1 => by
    rw [List.replicate_succ, val_cons, List.length_replicate, Nat.add_assoc, val_nines n]
    have e : (57 : UInt8).toNat - 48 = 9 := rfl
    rw [e, Nat.pow_succ]
    omega
/-- And where no nine stands it ends. -/
theorem IncI.done {H h : List UInt8} {i : Nat} (hd : Digs H) (k : IncI H h i) (h9 : H.getD i 0 ≠ 57) : Digs (h.set i (H.getD i 0 + 1)) ∧ val (h.set i (H.getD i 0 + 1)) = val H + 1 ∧ (h.set i (H.getD i 0 + 1)).length = H.length ∧ (H.getD i 0 + 1).toNat = (H.getD i 0).toNat + 1 := by
  have kl := k.get.1
  obtain ⟨k1, rfl, k3⟩ := k
  obtain ⟨c, hc⟩ : ∃ c, c = H[i]'k1 := ⟨_, rfl⟩
  have hg : H.getD i 0 = c := by rw [List.getD_eq_getElem?_getD, List.getElem?_eq_getElem k1, hc]; rfl
  rw [hg] at h9 ⊢
  have hcd : Dig c := by rw [hc]; exact hd _ (List.getElem_mem k1)
  have hcd2 := hcd
  unfold Dig at hcd2
  have h57 : c.toNat ≠ 57 := fun e => h9 (UInt8.toNat_inj.1 (by rw [e]; rfl))
  have h1 : (c + 1).toNat = c.toNat + 1 := by
    rw [UInt8.toNat_add]
    show (c.toNat + 1) % 256 = _
    omega
  have hset : (H.take (i + 1) ++ List.replicate (H.length - (i + 1)) 48).set i (c + 1) = H.take i ++ ((c + 1) :: List.replicate (H.length - (i + 1)) 48) := by
    rw [← List.take_append_getElem k1, List.append_assoc, List.set_append_right _ _ (by rw [List.length_take]; omega), List.length_take, Nat.min_eq_left (by omega), Nat.sub_self]
    rfl
  have hH : H = H.take i ++ (c :: List.replicate (H.length - (i + 1)) 57) := by
    conv => lhs; rw [← List.take_append_drop i H]
    rw [List.drop_eq_getElem_cons k1, ← hc, k3]
  refine ⟨?_, ?_, by rw [List.length_set, kl], h1⟩
  · rw [hset]
    refine (hd.take i).append ?_
    intro x hx
    rcases List.mem_cons.1 hx with rfl | hx
    · unfold Dig; rw [h1]; omega
    · rw [(List.mem_replicate.1 hx).2]; decide
  · rw [hset]
    conv => rhs; rw [hH]
    rw [val_append, val_append, val_cons, val_cons, val_zeros, List.length_cons, List.length_cons, List.length_replicate, List.length_replicate, h1]
    have := val_nines (H.length - (i + 1))
    generalize 10 ^ (H.length - (i + 1)) = P at *
    have e : c.toNat + 1 - 48 = (c.toNat - 48) + 1 := by omega
    rw [e, Nat.add_mul]
    omega
/-- The first places of digits, and the others. -/
theorem rnd_parts {O : List UInt8} (hO : Digs O) (h : 10 ^ 34 ≤ val O) :
    ∃ t, rndT (val O) = t ∧ 0 < t ∧ t ≤ O.length ∧ (dstr (val O)).length = 34 + t ∧ val (O.take (O.length - t)) = val O / 10 ^ t ∧ val (O.drop (O.length - t)) = val O % 10 ^ t ∧ (O.drop (O.length - t)).length = t := by
  have hl : (dstr (val O)).length ≤ O.length := length_dstr_le (val_lt O hO)
  have hp : 34 < (dstr (val O)).length := by
    rcases Nat.lt_or_ge 34 (dstr (val O)).length with h1 | h1
    · exact h1
    · have := length_dstr_iff.1 h1; omega
  refine ⟨(dstr (val O)).length - 34, by unfold rndT; rw [if_neg (by omega)], by omega, by omega, by omega, ?_⟩
  obtain ⟨t, ht⟩ : ∃ t, t = (dstr (val O)).length - 34 := ⟨_, rfl⟩
  rw [← ht]
  have htl : t ≤ O.length := by omega
  have hdl : (O.drop (O.length - t)).length = t := by rw [List.length_drop]; omega
  have hv := val_append (O.take (O.length - t)) (O.drop (O.length - t))
  rw [List.take_append_drop, hdl] at hv
  have hlt := val_lt _ (hO.drop (O.length - t))
  rw [hdl] at hlt
  refine ⟨?_, ?_, hdl⟩
  · rw [hv, Nat.add_comm, Nat.add_mul_div_right _ _ (n10 t), Nat.div_eq_of_lt hlt, Nat.zero_add]
  · rw [hv, Nat.add_comm, Nat.add_mul_mod_self_right, Nat.mod_eq_of_lt hlt]
/-- Whether the last place is to be one more, as the first of the others tells. -/
theorem rnd_up {O : List UInt8} (hO : Digs O) (h : 10 ^ 34 ≤ val O) (more : Bool) {t : Nat} (ht : rndT (val O) = t) {c : UInt8} {tl : List UInt8} (hc : O.drop (O.length - t) = c :: tl) (ho : Bool) (hodd : ho = decide (val (O.take (O.length - t)) % 2 = 1)) :
    rndUp (val O) t more = if c = 53 then (more || decide (val tl ≠ 0) || ho) else decide (53 < c.toNat) := by
  obtain ⟨t', e1, h0, h1, _, h2, h3, h4⟩ := rnd_parts hO h
  rw [ht] at e1
  subst e1
  have hdg : Digs (c :: tl) := by rw [← hc]; exact hO.drop _
  have hcd : Dig c := hdg c (by simp)
  have htd : Digs tl := fun x hx => hdg x (by simp [hx])
  have hlt := val_lt _ htd
  unfold Dig at hcd
  have hT : val O % 10 ^ t = (c.toNat - 48) * 10 ^ tl.length + val tl := by rw [← h3, hc, val_cons]
  have htl : t = tl.length + 1 := by rw [← h4, hc, List.length_cons]
  unfold rndUp
  rw [hT, ← h2, hodd]
  have hp : 10 ^ t = 10 * 10 ^ tl.length := by rw [htl, Nat.pow_succ, Nat.mul_comm]
  rw [hp]
  generalize 10 ^ tl.length = P at *
  by_cases h5 : c = 53
  · subst h5
    rw [if_pos rfl]
    have e : (53 : UInt8).toNat - 48 = 5 := rfl
    rw [e]
    by_cases hz : val tl = 0
    · rw [hz, decide_eq_false (by omega), decide_eq_true (show 2 * (5 * P + 0) = 10 * P by omega)]
      simp
    · rw [decide_eq_true (show 10 * P < 2 * (5 * P + val tl) by omega), decide_eq_true hz]
      simp
  · rw [if_neg h5]
    have h6 : c.toNat ≠ 53 := fun e => h5 (UInt8.toNat_inj.1 (by rw [e]; rfl))
    rcases Nat.lt_or_ge 53 c.toNat with h7 | h7
    · rw [decide_eq_true h7]
      have : 6 * P ≤ (c.toNat - 48) * P := Nat.mul_le_mul_right _ (by omega)
      rw [decide_eq_true (by omega)]
      rfl
    · have : (c.toNat - 48) * P ≤ 4 * P := Nat.mul_le_mul_right _ (by omega)
      rw [decide_eq_false (show ¬ 10 * P < 2 * ((c.toNat - 48) * P + val tl) by omega), decide_eq_false (show ¬ 2 * ((c.toNat - 48) * P + val tl) = 10 * P by omega), decide_eq_false (show ¬ 53 < c.toNat by omega)]
      rfl
/-- What is kept of digits. -/
theorem rnd_kept {O : List UInt8} (hO : Digs O) (h : 10 ^ 34 ≤ val O) (more : Bool) : rndK (val O) more = val (O.take (O.length - rndT (val O))) + (if rndUp (val O) (rndT (val O)) more then 1 else 0) := by
  obtain ⟨t', e1, h0, h1, _, h2, h3, h4⟩ := rnd_parts hO h
  unfold rndK
  rw [if_neg (by omega), e1, h2]
end Go.Proofs.YtampgimmodomoaaDoor

/- Plain: sums, differences, products digit by digit, as on paper. No program in sight. -/
namespace Go.Proofs.YtampgimmodomoaaDoor

theorem val_drop (l : List UInt8) (k : Nat) (h : k < l.length) : val (l.drop k) = ((l[k]).toNat - 48) * 10 ^ (l.length - (k + 1)) + val (l.drop (k + 1)) := by
  rw [List.drop_eq_getElem_cons h, val_cons, List.length_drop]
theorem dig_range {c : UInt8} (h : Dig c) : 48 ≤ c.toNat ∧ c.toNat ≤ 57 := h
/-- Digits from the end on: the sum. -/
def PlusR (x y s : List UInt8) (carry j : Nat) : Prop := j ≤ x.length ∧ s.length = j ∧ Digs s ∧ carry ≤ 1 ∧ val s + 10 ^ j * carry = val (x.drop (x.length - j)) + val (y.drop (x.length - j))
theorem PlusR.start (x y : List UInt8) (hl : x.length = y.length) : PlusR x y [] 0 0 := ⟨Nat.zero_le _, rfl, Digs.nil, by omega, by
  rw [Nat.sub_zero, List.drop_length, hl, List.drop_length]
  rfl⟩
theorem PlusR.next {x y s : List UInt8} {carry j n : Nat} (hx : Digs x) (hy : Digs y) (hl : x.length = y.length) (h : PlusR x y s carry j) (hj : j < x.length)
    (hn : n = (x[x.length - 1 - j].toNat - 48) + ((y[x.length - 1 - j]'(by omega)).toNat - 48) + carry) : PlusR x y (dg n :: s) (n / 10) (j + 1) := by
  obtain ⟨h0, h1, h2, h3, h4⟩ := h
  have dx := dig_range (hx _ (List.getElem_mem (show x.length - 1 - j < x.length by omega)))
  have dy := dig_range (hy _ (List.getElem_mem (show x.length - 1 - j < y.length by omega)))
  refine ⟨by omega, by rw [List.length_cons, h1], fun c hc => ?_, by omega, ?_⟩
  · rcases List.mem_cons.1 hc with rfl | hc
    · exact dg_dig n
    · exact h2 c hc
  · have e : x.length - (j + 1) = x.length - 1 - j := by omega
    have ex := val_drop x (x.length - 1 - j) (by omega)
    have ey := val_drop y (x.length - 1 - j) (by omega)
    have e2 : x.length - 1 - j + 1 = x.length - j := by omega
    have e3 : x.length - (x.length - 1 - j + 1) = j := by omega
    have e4 : y.length - (x.length - 1 - j + 1) = j := by omega
    rw [e3, e2] at ex
    rw [e4, e2] at ey
    rw [e, ex, ey, val_cons, dg_toNat, h1, Nat.pow_succ]
    have hm := Nat.mod_add_div n 10
    have e5 : (48 + n % 10 - 48) * 10 ^ j + 10 ^ j * 10 * (n / 10) = n * 10 ^ j := by
      rw [Nat.add_sub_cancel_left, Nat.mul_comm (n % 10), Nat.mul_assoc, ← Nat.mul_add, hm, Nat.mul_comm]
    have e6 : n * 10 ^ j = (x[x.length - 1 - j].toNat - 48) * 10 ^ j + ((y[x.length - 1 - j]'(by omega)).toNat - 48) * 10 ^ j + 10 ^ j * carry := by
      rw [hn, Nat.add_mul, Nat.add_mul, Nat.mul_comm carry]
    omega
theorem PlusR.done {x y s : List UInt8} {carry : Nat} (h : PlusR x y s carry x.length) : dg carry :: s = digN (x.length + 1) (val x + val y) := by
  obtain ⟨_, h1, h2, h3, h4⟩ := h
  rw [Nat.sub_self] at h4
  simp only [List.drop_zero] at h4
  have hd : Digs (dg carry :: s) := fun c hc => by
    rcases List.mem_cons.1 hc with rfl | hc
    · exact dg_dig _
    · exact h2 c hc
  have hv : val (dg carry :: s) = val x + val y := by
    rw [val_cons, dg_toNat, h1, ← h4]
    have : carry % 10 = carry := by omega
    rw [this, Nat.add_sub_cancel_left, Nat.mul_comm]
    omega
  have := digN_val (x.length + 1) (dg carry :: s) hd (by rw [List.length_cons, h1])
  rw [hv] at this
  exact this.symm
def MinusR (x y s : List UInt8) (borrow j : Nat) : Prop := j ≤ x.length ∧ s.length = j ∧ Digs s ∧ borrow ≤ 1 ∧ val s + val (y.drop (x.length - j)) = val (x.drop (x.length - j)) + 10 ^ j * borrow
theorem MinusR.start (x y : List UInt8) (hl : x.length = y.length) : MinusR x y [] 0 0 := ⟨Nat.zero_le _, rfl, Digs.nil, by omega, by
  rw [Nat.sub_zero, List.drop_length, hl, List.drop_length]
  rfl⟩
theorem MinusR.next {x y s : List UInt8} {borrow j n b2 : Nat} (hx : Digs x) (hy : Digs y) (hl : x.length = y.length) (h : MinusR x y s borrow j) (hj : j < x.length) (hb2 : b2 ≤ 1) (hn9 : n < 10)
    (hn : n + (y[x.length - 1 - j]'(by omega)).toNat + borrow = x[x.length - 1 - j].toNat + 10 * b2) : MinusR x y (dg n :: s) b2 (j + 1) := by
  obtain ⟨h0, h1, h2, h3, h4⟩ := h
  have dx := dig_range (hx _ (List.getElem_mem (show x.length - 1 - j < x.length by omega)))
  have dy := dig_range (hy _ (List.getElem_mem (show x.length - 1 - j < y.length by omega)))
  refine ⟨by omega, by rw [List.length_cons, h1], fun c hc => ?_, hb2, ?_⟩
  · rcases List.mem_cons.1 hc with rfl | hc
    · exact dg_dig n
    · exact h2 c hc
  · have e : x.length - (j + 1) = x.length - 1 - j := by omega
    have ex := val_drop x (x.length - 1 - j) (by omega)
    have ey := val_drop y (x.length - 1 - j) (by omega)
    have e2 : x.length - 1 - j + 1 = x.length - j := by omega
    have e3 : x.length - (x.length - 1 - j + 1) = j := by omega
    have e4 : y.length - (x.length - 1 - j + 1) = j := by omega
    rw [e3, e2] at ex
    rw [e4, e2] at ey
    rw [e, ex, ey, val_cons, dg_toNat, h1, Nat.pow_succ, Nat.mod_eq_of_lt hn9, Nat.add_sub_cancel_left]
    have e5 : n * 10 ^ j + ((y[x.length - 1 - j]'(by omega)).toNat - 48) * 10 ^ j + 10 ^ j * borrow = (x[x.length - 1 - j].toNat - 48) * 10 ^ j + 10 ^ j * 10 * b2 := by
      rw [Nat.mul_comm (10 ^ j) borrow, ← Nat.add_mul, ← Nat.add_mul, Nat.mul_assoc, Nat.mul_comm (10 ^ j) (10 * b2), ← Nat.add_mul]
      congr 1
      omega
    omega
theorem MinusR.done {x y s : List UInt8} {borrow : Nat} (h : MinusR x y s borrow x.length) (hle : val y ≤ val x) : s = digN x.length (val x - val y) := by
  obtain ⟨_, h1, h2, h3, h4⟩ := h
  rw [Nat.sub_self] at h4
  simp only [List.drop_zero] at h4
  have hlt := val_lt s h2
  rw [h1] at hlt
  have hv : val s = val x - val y := by
    rcases (show borrow = 0 ∨ borrow = 1 from by omega) with rfl | rfl <;> omega
  have := digN_val x.length s h2 h1
  rw [hv] at this
  exact this.symm

/-- A row of numbers, each a place of ten. -/
def nval (l : List Nat) : Nat := l.foldl (fun a x => a * 10 + x) 0
theorem foldl_nval (l : List Nat) : ∀ a, l.foldl (fun a x => a * 10 + x) a = a * 10 ^ l.length + nval l := by
  unfold nval
  induction l with
  | nil => intro a; simp
  | cons c l ih =>
    intro a
    simp only [List.foldl_cons, List.length_cons]
    rw [ih (a * 10 + c), ih (0 * 10 + c)]
    simp only [Nat.zero_mul, Nat.zero_add, Nat.add_mul, Nat.pow_succ]
    rw [Nat.mul_assoc, Nat.mul_comm 10]
    omega
theorem nval_append (a b : List Nat) : nval (a ++ b) = nval a * 10 ^ b.length + nval b := by
  show (a ++ b).foldl _ 0 = _
  rw [List.foldl_append, foldl_nval]
  rfl
theorem nval_cons (c : Nat) (l : List Nat) : nval (c :: l) = c * 10 ^ l.length + nval l := by
  have := nval_append [c] l
  rw [List.singleton_append] at this
  rw [this]
  simp [nval]
theorem nval_zeros (n : Nat) : nval (List.replicate n 0) = 0 := by
  induction n with
  | zero => rfl
  | succ n ih => rw [List.replicate_succ, nval_cons, ih]; simp
theorem nval_set (l : List Nat) (i v : Nat) (h : i < l.length) : nval (l.set i (l[i] + v)) = nval l + v * 10 ^ (l.length - 1 - i) := by
  have e1 : l = l.take i ++ (l[i] :: l.drop (i + 1)) := by rw [← List.drop_eq_getElem_cons h, List.take_append_drop]
  have e2 : l.set i (l[i] + v) = l.take i ++ ((l[i] + v) :: l.drop (i + 1)) := by rw [List.set_eq_take_append_cons_drop, if_pos h]
  have f1 : nval l = nval (l.take i) * 10 ^ (l.drop (i + 1)).length.succ + (l[i] * 10 ^ (l.drop (i + 1)).length + nval (l.drop (i + 1))) := by
    conv => lhs; rw [e1]
    rw [nval_append, nval_cons]
    rfl
  have f2 : nval (l.set i (l[i] + v)) = nval (l.take i) * 10 ^ (l.drop (i + 1)).length.succ + ((l[i] + v) * 10 ^ (l.drop (i + 1)).length + nval (l.drop (i + 1))) := by
    rw [e2, nval_append, nval_cons]
    rfl
  have hl : (l.drop (i + 1)).length = l.length - 1 - i := by rw [List.length_drop]; omega
  rw [f1, f2, hl, Nat.add_mul]
  omega
theorem nval_drop (l : List Nat) (k : Nat) (h : k < l.length) : nval (l.drop k) = l[k] * 10 ^ (l.length - (k + 1)) + nval (l.drop (k + 1)) := by
  rw [List.drop_eq_getElem_cons h, nval_cons, List.length_drop]
/-- A product's rows: i digits of the first done, and k of the second in the next one. -/
def MulR (a b : List UInt8) (row : List Nat) (i k : Nat) : Prop :=
  row.length = a.length + b.length ∧ (∀ x ∈ row, x ≤ 81 * (i * b.length + k)) ∧
  nval row = val (a.take i) * val b * 10 ^ (a.length - i) + (if h : i < a.length then (a[i].toNat - 48) * val (b.take k) * 10 ^ (b.length - k) * 10 ^ (a.length - 1 - i) else 0)
theorem val_take_succ (l : List UInt8) (k : Nat) (h : k < l.length) : val (l.take (k + 1)) = val (l.take k) * 10 + (l[k].toNat - 48) := by
  rw [← List.take_append_getElem h, val_snoc]
theorem MulR.start (a b : List UInt8) : MulR a b (List.replicate (a.length + b.length) 0) 0 0 := by
  refine ⟨by simp, fun x hx => by rw [(List.mem_replicate.1 hx).2]; exact Nat.zero_le _, ?_⟩
  rw [nval_zeros]
  simp [val_nil]
theorem MulR.next {a b : List UInt8} {row : List Nat} {i k : Nat} (ha : Digs a) (hb : Digs b) (hi : i < a.length) (hk : k < b.length) (h : MulR a b row i k) (hr : i + k + 1 < row.length) :
    MulR a b (row.set (i + k + 1) (row[i + k + 1] + (a[i].toNat - 48) * (b[k].toNat - 48))) i (k + 1) := by
  obtain ⟨h1, h2, h3⟩ := h
  have da := dig_range (ha _ (List.getElem_mem hi))
  have db := dig_range (hb _ (List.getElem_mem hk))
  refine ⟨by rw [List.length_set]; exact h1, fun x hx => ?_, ?_⟩
  · rcases List.mem_or_eq_of_mem_set hx with hx | rfl
    · have := h2 x hx; omega
    · have h9 := h2 _ (List.getElem_mem hr)
      have : (a[i].toNat - 48) * (b[k].toNat - 48) ≤ 9 * 9 := Nat.mul_le_mul (by omega) (by omega)
      omega
  · rw [nval_set _ _ _ hr, h3, dif_pos hi, dif_pos hi, val_take_succ b k hk, h1]
    have e1 : a.length + b.length - 1 - (i + k + 1) = (b.length - (k + 1)) + (a.length - 1 - i) := by omega
    have e2 : b.length - k = (b.length - (k + 1)) + 1 := by omega
    have p1 : 10 ^ (b.length - (k + 1) + (a.length - 1 - i)) = 10 ^ (b.length - (k + 1)) * 10 ^ (a.length - 1 - i) := Nat.pow_add _ _ _
    have p2 : 10 ^ (b.length - (k + 1) + 1) = 10 ^ (b.length - (k + 1)) * 10 := Nat.pow_succ _ _
    rw [e1, e2, p1, p2]
    clear e1 e2 p1 p2 h1 h2 h3 ha hb hr da db
    generalize 10 ^ (b.length - (k + 1)) = P
    generalize 10 ^ (a.length - 1 - i) = Q
    generalize 10 ^ (a.length - i) = R
    generalize a[i].toNat - 48 = x
    generalize b[k].toNat - 48 = y
    grind
theorem MulR.row {a b : List UInt8} {row : List Nat} {i : Nat} (hi : i < a.length) (h : MulR a b row i b.length) : MulR a b row (i + 1) 0 := by
  obtain ⟨h1, h2, h3⟩ := h
  refine ⟨h1, fun x hx => by have := h2 x hx; rw [Nat.add_mul]; omega, ?_⟩
  rw [h3, dif_pos hi, List.take_length, Nat.sub_self, val_take_succ a i hi]
  have e : a.length - i = (a.length - (i + 1)) + 1 := by omega
  have e2 : a.length - 1 - i = a.length - (i + 1) := by omega
  rw [e, e2, Nat.pow_succ]
  have e3 : (if h : i + 1 < a.length then (a[i + 1].toNat - 48) * val (b.take 0) * 10 ^ (b.length - 0) * 10 ^ (a.length - 1 - (i + 1)) else 0) = 0 := by
    split
    · simp [val_nil]
    · rfl
  rw [e3]
  generalize 10 ^ (a.length - (i + 1)) = P
  grind
theorem MulR.done {a b : List UInt8} {row : List Nat} {k : Nat} (h : MulR a b row a.length k) : row.length = a.length + b.length ∧ nval row = val a * val b := by
  obtain ⟨h1, _, h3⟩ := h
  rw [dif_neg (by omega), List.take_length, Nat.sub_self] at h3
  exact ⟨h1, by simpa using h3⟩
/-- The digits of a product, from the end on. -/
def CarryR (row : List Nat) (s : List UInt8) (carry j : Nat) : Prop := j ≤ row.length ∧ s.length = j ∧ Digs s ∧ val s + 10 ^ j * carry = nval (row.drop (row.length - j))
theorem CarryR.start (row : List Nat) : CarryR row [] 0 0 := ⟨Nat.zero_le _, rfl, Digs.nil, by rw [Nat.sub_zero, List.drop_length]; rfl⟩
theorem CarryR.next {row : List Nat} {s : List UInt8} {carry j n : Nat} (h : CarryR row s carry j) (hj : j < row.length) (hn : n = row[row.length - 1 - j] + carry) : CarryR row (dg n :: s) (n / 10) (j + 1) := by
  obtain ⟨h0, h1, h2, h4⟩ := h
  refine ⟨by omega, by rw [List.length_cons, h1], fun c hc => ?_, ?_⟩
  · rcases List.mem_cons.1 hc with rfl | hc
    · exact dg_dig n
    · exact h2 c hc
  · have e : row.length - (j + 1) = row.length - 1 - j := by omega
    have ex := nval_drop row (row.length - 1 - j) (by omega)
    have e2 : row.length - 1 - j + 1 = row.length - j := by omega
    have e3 : row.length - (row.length - 1 - j + 1) = j := by omega
    rw [e3, e2] at ex
    rw [e, ex, val_cons, dg_toNat, h1, Nat.pow_succ]
    have hm := Nat.mod_add_div n 10
    have e5 : (48 + n % 10 - 48) * 10 ^ j + 10 ^ j * 10 * (n / 10) = n * 10 ^ j := by
      rw [Nat.add_sub_cancel_left, Nat.mul_comm (n % 10), Nat.mul_assoc, ← Nat.mul_add, hm, Nat.mul_comm]
    have e6 : n * 10 ^ j = row[row.length - 1 - j] * 10 ^ j + 10 ^ j * carry := by
      rw [hn, Nat.add_mul, Nat.mul_comm carry]
    omega
theorem CarryR.done {row : List Nat} {s : List UInt8} {carry : Nat} (h : CarryR row s carry row.length) (hlt : nval row < 10 ^ row.length) : Digs s ∧ val s = nval row := by
  obtain ⟨_, h1, h2, h4⟩ := h
  rw [Nat.sub_self, List.drop_zero] at h4
  refine ⟨h2, ?_⟩
  rcases Nat.eq_zero_or_pos carry with rfl | hc
  · omega
  · have : 10 ^ row.length * 1 ≤ 10 ^ row.length * carry := Nat.mul_le_mul_left _ hc
    omega
end Go.Proofs.YtampgimmodomoaaDoor

/- Plain: long division digit by digit, a row taken off another one, and a number put into a text. No program in sight. -/
namespace Go.Proofs.YtampgimmodomoaaDoor

/-- A row with a digit more, its first one (a nought) gone. -/
theorem digN_shift {T x : Nat} {c : UInt8} (hT : 0 < T) (hx : x < 10 ^ (T - 1)) (hc : Dig c) : digN T (x * 10 + (c.toNat - 48)) = (digN T x).drop 1 ++ [c] := by
  obtain ⟨t, rfl⟩ : ∃ t, T = t + 1 := ⟨T - 1, by omega⟩
  have h1 := digN_front t x
  rw [h1]
  show digN t ((x * 10 + (c.toNat - 48)) / 10) ++ [dg (x * 10 + (c.toNat - 48))] = digN t x ++ [c]
  have hc2 := hc
  unfold Dig at hc2
  have e : (x * 10 + (c.toNat - 48)) / 10 = x := by omega
  rw [e, dg_of hc _ (by omega)]
/-- What taking off tells at its end. -/
theorem take_off {T x y b : Nat} {s : List UInt8} (hx : x < 10 ^ T) (hy : y < 10 ^ T) (h : MinusR (digN T x) (digN T y) s b T) : (b = 0 ∧ y ≤ x ∧ s = digN T (x - y)) ∨ (b = 1 ∧ x < y) := by
  have h0 := h
  obtain ⟨_, h1, h2, h3, h4⟩ := h0
  rw [length_digN, Nat.sub_self] at h4
  simp only [List.drop_zero] at h4
  rw [val_digN, val_digN, Nat.mod_eq_of_lt hx, Nat.mod_eq_of_lt hy] at h4
  have hlt := val_lt s h2
  rw [h1] at hlt
  rcases (show b = 0 ∨ b = 1 from by omega) with rfl | rfl
  · refine .inl ⟨rfl, by omega, ?_⟩
    have hl : (digN T x).length = T := length_digN T x
    have := MinusR.done (x := digN T x) (y := digN T y) (s := s) (borrow := 0) (by rw [hl]; exact h) (by rw [val_digN, val_digN, Nat.mod_eq_of_lt hx, Nat.mod_eq_of_lt hy]; omega)
    rw [hl, val_digN, val_digN, Nat.mod_eq_of_lt hx, Nat.mod_eq_of_lt hy] at this
    exact this
  · exact .inr ⟨rfl, by omega⟩
/-- Division so far: digits D were brought down, O is the quotient, x what is left. -/
def LongI (B : Nat) (D O : List UInt8) (x : Nat) : Prop := Digs O ∧ O.length = D.length ∧ val D = val O * B + x ∧ x < B
theorem LongI.start {B : Nat} (hB : 0 < B) : LongI B [] [] 0 := ⟨Digs.nil, rfl, by simp [val_nil], hB⟩
theorem LongI.next {B x : Nat} {D O : List UInt8} {c : UInt8} (h : LongI B D O x) (hc : Dig c) :
    LongI B (D ++ [c]) (O ++ [dg ((x * 10 + (c.toNat - 48)) / B)]) ((x * 10 + (c.toNat - 48)) % B) ∧ (x * 10 + (c.toNat - 48)) / B ≤ 9 ∧ x * 10 + (c.toNat - 48) < B * 10 := by
  obtain ⟨h1, h2, h3, h4⟩ := h
  unfold Dig at hc
  have hlt : x * 10 + (c.toNat - 48) < B * 10 := by omega
  have hq : (x * 10 + (c.toNat - 48)) / B < 10 := by
    rw [Nat.div_lt_iff_lt_mul (by omega)]
    omega
  refine ⟨⟨h1.append (fun d hd => by rw [List.mem_singleton.1 hd]; exact dg_dig _), by rw [List.length_append, List.length_append, h2]; rfl, ?_, Nat.mod_lt _ (by omega)⟩, by omega, hlt⟩
  rw [val_snoc, val_snoc, dg_toNat, h3, Nat.add_sub_cancel_left, Nat.mod_eq_of_lt hq]
  have := Nat.div_add_mod (x * 10 + (c.toNat - 48)) B
  generalize (x * 10 + (c.toNat - 48)) / B = q at *
  generalize (x * 10 + (c.toNat - 48)) % B = r at *
  grind
theorem LongI.is {B x : Nat} {D O : List UInt8} (h : LongI B D O x) : val O = val D / B ∧ x = val D % B := by
  obtain ⟨_, _, h3, h4⟩ := h
  rw [h3]
  have hB : 0 < B := by omega
  rw [Nat.add_comm, Nat.add_mul_div_right _ _ hB, Nat.add_mul_mod_self_right, Nat.div_eq_of_lt h4, Nat.mod_eq_of_lt h4]
  exact ⟨(Nat.zero_add _).symm, rfl⟩
theorem val_zeros_end (D : List UInt8) (k : Nat) : val (D ++ List.replicate k 48) = val D * 10 ^ k := by
  rw [val_append, val_zeros, List.length_replicate, Nat.add_zero]
/-- Noughts brought down while something is left. -/
theorem LongI.stop {B x j : Nat} {D O : List UInt8} (h : LongI B (D ++ List.replicate j 48) O x) : (stopJ (val D) B j ↔ x = 0 ∨ 10 ^ 34 ≤ val O) ∧ val O = val D * 10 ^ j / B ∧ x = val D * 10 ^ j % B := by
  obtain ⟨h1, h2⟩ := h.is
  rw [val_zeros_end] at h1 h2
  unfold stopJ
  rw [h1, h2]
  exact ⟨Iff.rfl, rfl, rfl⟩
/-- A sign, the part ahead of the point, and what is behind it. -/
def formL (neg : Bool) (W P : List UInt8) : List UInt8 := (if neg then [45] else []) ++ (W ++ (if P = [] then [] else 46 :: P))
theorem sign_form (neg : Bool) {W : List UInt8} (hW : Digs W) (hne : W ≠ []) (X : List UInt8) : signL ((if neg then [45] else []) ++ (W ++ X)) = (neg, W ++ X) := by
  cases neg with
  | true => rfl
  | false =>
    obtain ⟨c, t, rfl⟩ := List.exists_cons_of_ne_nil hne
    have hc := hW c (by simp)
    unfold signL
    simp only [Bool.false_eq_true, if_false, List.nil_append, List.cons_append]
    split
    · rename_i h
      injection h with h
      subst h
      exact absurd hc (by decide)
    · rfl
theorem parse_form (neg : Bool) {W P : List UInt8} (hW : Digs W) (hP : Digs P) (hne : W ≠ []) (hh : 1 < W.length → W.head? ≠ some 48) : parseL (formL neg W P) = some (norm neg (val (W ++ P)) P.length) := by
  unfold parseL formL
  rw [sign_form neg hW hne]
  have h := plain_form hW hP hne hh (E := []) rfl (by simp) 0 rfl
  rw [List.append_nil] at h
  rw [h, if_neg (show ¬ ((P.length : Int) - 0 < 0) by omega)]
  rfl
/-- A number of digits of which S stand behind the point, as a text. -/
theorem parse_scaled (neg : Bool) {D : List UInt8} (hD : Digs D) {S : Nat} (hS : S ≤ D.length) :
    parseL (formL neg (dtxt (val (D.take (D.length - S)))) (D.drop (D.length - S))) = some (norm neg (val D) S) := by
  have hPl : (D.drop (D.length - S)).length = S := by rw [List.length_drop]; omega
  rw [parse_form neg (digs_dtxt _) (hD.drop _) (by have := length_dtxt (val (D.take (D.length - S))); intro e; rw [e] at this; simp at this) (dtxt_head _), hPl]
  congr 2
  rw [val_append, val_dtxt, hPl]
  have := val_append (D.take (D.length - S)) (D.drop (D.length - S))
  rw [List.take_append_drop, hPl] at this
  exact this.symm
/-- Noughts ahead, till something stands ahead of the point. -/
theorem val_pad (k : Nat) (D : List UInt8) : val (List.replicate k 48 ++ D) = val D := by
  rw [val_append, val_zeros, Nat.zero_mul, Nat.zero_add]
theorem mod_scale (a b : Dc) : modD a b = norm a.neg (a.n * 10 ^ (max a.s b.s - a.s) % (b.n * 10 ^ (max a.s b.s - b.s))) (max a.s b.s) := by
  unfold modD
  obtain ⟨m, hm⟩ : ∃ m, m = min a.s b.s := ⟨_, rfl⟩
  obtain ⟨S, hS⟩ : ∃ S, S = max a.s b.s := ⟨_, rfl⟩
  rw [← hS, ← norm_pow a.neg _ S m, ← Nat.mul_mod_mul_right, Nat.mul_assoc, Nat.mul_assoc, ← Nat.pow_add, ← Nat.pow_add]
  rw [show S - a.s + m = b.s by omega, show S - b.s + m = a.s by omega, show S + m = a.s + b.s by omega]
/-- A printed decimal with something behind the point: what is ahead of it, and the first digit behind. -/
theorem print_split {d : Dc} (h : Ok d) (hs : 0 < d.s) : ∃ A c P, printL d = A ++ 46 :: c :: P ∧ (46 : UInt8) ∉ A ∧ parseL A = some (some (wholeD d)) ∧ c.toNat = 48 + tenthD d ∧ tenthD d ≤ 9 := by
  obtain ⟨W, P, hW, hP, hne, hh, hl, hv, e⟩ := bare_form d
  have hP0 : P ≠ [] := by intro e; rw [e] at hl; simp at hl; omega
  rw [if_neg hP0] at e
  obtain ⟨c, t, rfl⟩ := List.exists_cons_of_ne_nil hP0
  have hc : Dig c := hP c (by simp)
  have hc2 := hc
  unfold Dig at hc2
  have ht : Digs t := fun x hx => hP x (by simp [hx])
  have htl : d.s = t.length + 1 := by rw [← hl]; rfl
  have hvt := val_lt t ht
  rw [val_append, hl, val_cons] at hv
  have hvP := val_lt (c :: t) hP
  rw [val_cons, hl] at hvP
  have hvW : val W = d.n / 10 ^ d.s := by
    rw [← hv, Nat.add_comm, Nat.add_mul_div_right _ _ (n10 _), Nat.div_eq_of_lt hvP, Nat.zero_add]
  have htenth : tenthD d = c.toNat - 48 := by
    unfold tenthD
    rw [← hv, htl, Nat.pow_succ]
    have p0 := n10 t.length
    generalize 10 ^ t.length = Q at *
    have e1 : (val W * (Q * 10) + ((c.toNat - 48) * Q + val t)) * 10 = (val t * 10) + (val W * 10 + (c.toNat - 48)) * (Q * 10) := by grind
    rw [e1, Nat.add_mul_div_right _ _ (by omega), Nat.div_eq_of_lt (by omega)]
    omega
  refine ⟨(if d.neg then [45] else []) ++ W, c, t, ?_, ?_, ?_, by rw [htenth]; omega, by rw [htenth]; omega⟩
  · unfold printL
    rw [e, List.append_assoc]
  · intro hm
    rcases List.mem_append.1 hm with h1 | h1
    · cases hn : d.neg <;> rw [hn] at h1 <;> simp at h1
    · exact absurd (hW _ h1) (by decide)
  · have h1 := parse_form d.neg hW Digs.nil hne hh
    unfold formL at h1
    rw [if_pos rfl, List.append_nil] at h1
    rw [h1, hvW]
    show some (norm d.neg _ 0) = _
    rw [norm_whole h]
theorem print_whole {d : Dc} (hs : d.s = 0) : (46 : UInt8) ∉ printL d := by
  obtain ⟨W, P, hW, hP, hne, hh, hl, hv, e⟩ := bare_form d
  have hP0 : P = [] := List.eq_nil_of_length_eq_zero (by omega)
  rw [if_pos hP0, List.append_nil] at e
  unfold printL
  rw [e]
  intro hm
  rcases List.mem_append.1 hm with h1 | h1
  · cases hn : d.neg <;> rw [hn] at h1 <;> simp at h1
  · exact absurd (hW _ h1) (by decide)
end Go.Proofs.YtampgimmodomoaaDoor

/- Plain: how long a decimal's text is. No program in sight. -/
namespace Go.Proofs.YtampgimmodomoaaDoor

theorem pad_len {d : Dc} (h : Ok d) : (padL d).length ≤ 61 := by
  have h1 := length_dtxt_le (k := 60) h.1 (by decide)
  have h2 := h.2.1
  unfold padL
  rw [List.length_append, List.length_replicate]
  omega
theorem print_len {d : Dc} (h : Ok d) : (printL d).length ≤ 63 := by
  have h1 := pad_len h
  unfold printL bareL
  rw [List.length_append]
  have h2 : (if d.neg then [45] else ([] : List UInt8)).length ≤ 1 := by split <;> simp
  have h3 : (if d.s = 0 then padL d else (padL d).take ((padL d).length - d.s) ++ 46 :: (padL d).drop ((padL d).length - d.s)).length ≤ 62 := by
    split
    · omega
    · rw [List.length_append, List.length_cons, List.length_take, List.length_drop]; omega
  omega
end Go.Proofs.YtampgimmodomoaaDoor

