/- Plain: decimals written, and read. No program in sight. -/
import Derived.Test.YtgjffkblhhkjmaaDoorDDec
namespace Go.Proofs.YtgjffkblhhkjmaaDoor

/-- A number's digits; of nought: one. -/
def dtxt (n : Nat) : List UInt8 := if n = 0 then [48] else dstr n
def isDig (c : UInt8) : Bool := decide (Dig c)
def lead (l : List UInt8) : List UInt8 := l.takeWhile isDig
def rest (l : List UInt8) : List UInt8 := l.dropWhile isDig
/-- What stands behind e. -/
def expoS (l : List UInt8) : Option Int :=
  if rest l ≠ [] ∨ (lead l).length < 1 ∨ 2 < (lead l).length then none else some (val (lead l) : Int)
def expoL : List UInt8 → Option Int
  | [] => some 0
  | c :: t => if c ≠ 101 ∧ c ≠ 69 then none else
    match t with
    | 45 :: u => (expoS u).map (fun x => -x)
    | 43 :: u => expoS u
    | _ => expoS t
/-- The digits ahead of the point and behind it, and what follows. -/
def partL (l : List UInt8) : Option (List UInt8 × List UInt8) :=
  match l with
  | 46 :: t => if lead t = [] then none else some (lead t, rest t)
  | _ => some ([], l)
def plainN (l : List UInt8) : Option (Nat × Nat) :=
  match partL (rest l) with
  | none => none
  | some (p, r) => match expoL r with
    | none => none
    | some up => if lead l = [] ∨ (1 < (lead l).length ∧ (lead l).head? = some 48) then none else
      if (p.length : Int) - up < 0 then some (val (lead l ++ p) * 10 ^ (up - p.length).toNat, 0) else some (val (lead l ++ p), ((p.length : Int) - up).toNat)
def signL (l : List UInt8) : Bool × List UInt8 :=
  match l with
  | 45 :: t => (true, t)
  | _ => (false, l)
/-- What a text is: nothing that may be read; or what it is read as, if that is not too big. -/
def parseL (l : List UInt8) : Option (Option Dc) := (plainN (signL l).2).map fun x => norm (signL l).1 x.1 x.2
/-- A decimal's text. -/
def padL (d : Dc) : List UInt8 := List.replicate (d.s + 1 - (dtxt d.n).length) 48 ++ dtxt d.n
def bareL (d : Dc) : List UInt8 := if d.s = 0 then padL d else (padL d).take ((padL d).length - d.s) ++ 46 :: (padL d).drop ((padL d).length - d.s)
def printL (d : Dc) : List UInt8 := (if d.neg then [45] else []) ++ bareL d

theorem digs_dtxt (n : Nat) : Digs (dtxt n) := by
  unfold dtxt
  split
  · intro c h; rw [List.mem_singleton.1 h]; decide
  · exact digs_dstr n
theorem val_dtxt (n : Nat) : val (dtxt n) = n := by
  unfold dtxt
  split
  · rename_i h; rw [h]; rfl
  · exact val_dstr n
theorem length_dtxt (n : Nat) : 1 ≤ (dtxt n).length := by
  unfold dtxt
  split
  · exact Nat.le_refl _
  · rename_i h
    rcases Nat.eq_zero_or_pos (dstr n).length with h0 | h0
    · exact absurd (dstr_nil.1 (List.eq_nil_of_length_eq_zero h0)) h
    · exact h0
theorem dtxt_head (n : Nat) (h : 1 < (dtxt n).length) : (dtxt n).head? ≠ some 48 := by
  unfold dtxt at h ⊢
  split
  · rename_i h0; rw [if_pos h0] at h; simp at h
  · rename_i h0
    obtain ⟨c, t, e, hc⟩ := dstr_head n h0
    rw [e]
    intro h2
    injection h2 with h2
    exact hc h2
theorem dtxt_inj {a b : Nat} (h : dtxt a = dtxt b) : a = b := by
  have := congrArg val h
  rwa [val_dtxt, val_dtxt] at this
theorem length_dtxt_le {n k : Nat} (h : n < 10 ^ k) (hk : 1 ≤ k) : (dtxt n).length ≤ k := by
  unfold dtxt
  split
  · exact hk
  · exact length_dstr_le h
theorem isDig_iff (c : UInt8) : isDig c = true ↔ Dig c := decide_eq_true_iff
theorem lead_rest (l : List UInt8) : lead l ++ rest l = l := List.takeWhile_append_dropWhile
theorem digs_lead (l : List UInt8) : Digs (lead l) := by
  intro c hc
  unfold lead at hc
  have : ∀ m : List UInt8, c ∈ m.takeWhile isDig → isDig c = true := by
    intro m
    induction m with
    | nil => intro h; cases h
    | cons a m ih =>
      intro h
      by_cases ha : isDig a = true
      · rw [List.takeWhile_cons_of_pos ha] at h
        rcases List.mem_cons.1 h with rfl | h
        · exact ha
        · exact ih h
      · rw [List.takeWhile_cons_of_neg ha] at h
        cases h
  exact (isDig_iff c).1 (this l hc)
theorem lead_append {a : List UInt8} (ha : Digs a) (b : List UInt8) : lead (a ++ b) = a ++ lead b ∧ rest (a ++ b) = rest b := by
  induction a with
  | nil => exact ⟨rfl, rfl⟩
  | cons c a ih =>
    have hc : isDig c = true := (isDig_iff c).2 (ha c (by simp))
    obtain ⟨i1, i2⟩ := ih (fun x hx => ha x (by simp [hx]))
    unfold lead rest at *
    rw [List.cons_append, List.takeWhile_cons_of_pos hc, List.dropWhile_cons_of_pos hc, i1, i2]
    exact ⟨rfl, rfl⟩
theorem lead_stop {c : UInt8} (hc : ¬ Dig c) (t : List UInt8) : lead (c :: t) = [] ∧ rest (c :: t) = c :: t := by
  have : ¬ isDig c = true := fun h => hc ((isDig_iff c).1 h)
  unfold lead rest
  rw [List.takeWhile_cons_of_neg this, List.dropWhile_cons_of_neg this]
  exact ⟨rfl, rfl⟩
theorem lead_all {a : List UInt8} (ha : Digs a) : lead a = a ∧ rest a = [] := by
  have := lead_append ha []
  rw [List.append_nil] at this
  rw [this.1, this.2]
  exact ⟨List.append_nil _, rfl⟩
/-- A text of digits, a point, digits, and an end that begins with no digit and no point. -/
theorem plain_form {W P E : List UInt8} (hW : Digs W) (hP : Digs P) (hne : W ≠ []) (hh : 1 < W.length → W.head? ≠ some 48) (hE : lead E = []) (hE2 : ∀ t, E ≠ 46 :: t) (up : Int) (hup : expoL E = some up) :
    plainN (W ++ ((if P = [] then [] else 46 :: P) ++ E)) = if (P.length : Int) - up < 0 then some (val (W ++ P) * 10 ^ (up - P.length).toNat, 0) else some (val (W ++ P), ((P.length : Int) - up).toNat) := by
  have hrE : rest E = E := by have := lead_rest E; rw [hE] at this; exact this
  have hw : ¬ (W = [] ∨ (1 < W.length ∧ W.head? = some 48)) := by
    rintro (h | ⟨h1, h2⟩)
    · exact hne h
    · exact hh h1 h2
  by_cases hp : P = []
  · subst hp
    simp only [if_pos, List.nil_append]
    obtain ⟨e1, e2⟩ := lead_append hW E
    unfold plainN
    rw [e1, e2, hE, hrE, List.append_nil]
    have e3 : partL E = some ([], E) := by
      unfold partL
      split
      · rename_i t _ ; exact absurd rfl (hE2 _)
      · rfl
    rw [e3]
    simp only [hup, if_neg hw, List.append_nil]
  · simp only [if_neg hp]
    obtain ⟨e1, e2⟩ := lead_append hW (46 :: P ++ E)
    obtain ⟨s1, s2⟩ := lead_stop (c := 46) (by decide) (P ++ E)
    obtain ⟨p1, p2⟩ := lead_append hP E
    unfold plainN
    rw [e1, e2]
    simp only [List.cons_append, s1, s2, List.append_nil]
    have e3 : partL (46 :: (P ++ E)) = some (P, E) := by
      show (if lead (P ++ E) = [] then none else some (lead (P ++ E), rest (P ++ E))) = _
      rw [p1, p2, hE, hrE, List.append_nil, if_neg hp]
    rw [e3]
    simp only [hup, if_neg hw]
theorem padL_ok (d : Dc) : Digs (padL d) ∧ val (padL d) = d.n ∧ d.s + 1 ≤ (padL d).length := by
  unfold padL
  refine ⟨(Digs.zeros _).append (digs_dtxt _), ?_, ?_⟩
  · rw [val_append, val_zeros, val_dtxt]; simp
  · rw [List.length_append, List.length_replicate]; omega
/-- A decimal's text: digits, and behind a point as many as it says. -/
theorem bare_form (d : Dc) : ∃ W P, Digs W ∧ Digs P ∧ W ≠ [] ∧ (1 < W.length → W.head? ≠ some 48) ∧ P.length = d.s ∧ val (W ++ P) = d.n ∧ bareL d = W ++ (if P = [] then [] else 46 :: P) := by
  obtain ⟨h1, h2, h3⟩ := padL_ok d
  refine ⟨(padL d).take ((padL d).length - d.s), (padL d).drop ((padL d).length - d.s), h1.take _, h1.drop _, ?_, ?_, ?_, ?_, ?_⟩
  · intro e
    have := congrArg List.length e
    rw [List.length_take] at this
    simp at this
    omega
  · intro hlt
    rw [List.length_take] at hlt
    have hrep : d.s + 1 - (dtxt d.n).length = 0 := by
      have : (padL d).length = (d.s + 1 - (dtxt d.n).length) + (dtxt d.n).length := by unfold padL; rw [List.length_append, List.length_replicate]
      omega
    have hpad : padL d = dtxt d.n := by unfold padL; rw [hrep]; rfl
    rw [hpad] at hlt ⊢
    have hl := dtxt_head d.n (by omega)
    rw [List.head?_take, if_neg (by omega)]
    exact hl
  · rw [List.length_drop]; omega
  · rw [List.take_append_drop]; exact h2
  · unfold bareL
    by_cases hs : d.s = 0
    · rw [if_pos hs, hs]
      have e : (padL d).drop ((padL d).length - 0) = [] := by rw [Nat.sub_zero, List.drop_length]
      rw [e, if_pos rfl, List.append_nil, Nat.sub_zero, List.take_length]
    · rw [if_neg hs, if_neg]
      intro e
      have := congrArg List.length e
      rw [List.length_drop] at this
      simp at this
      omega
theorem sign_print (d : Dc) (E : List UInt8) : signL (printL d ++ E) = (d.neg, bareL d ++ E) := by
  unfold printL
  cases hn : d.neg with
  | true => rfl
  | false =>
    obtain ⟨W, P, hW, _, hne, _, _, _, e⟩ := bare_form d
    obtain ⟨c, t, rfl⟩ := List.exists_cons_of_ne_nil hne
    have hc := hW c (by simp)
    rw [e]
    unfold signL
    simp only [Bool.false_eq_true, if_false, List.nil_append, List.cons_append]
    split
    · rename_i h
      injection h with h
      subst h
      exact absurd hc (by decide)
    · rfl
/-- A decimal's text with an end behind it. -/
theorem parse_print (d : Dc) (E : List UInt8) (hE : lead E = []) (hE2 : ∀ t, E ≠ 46 :: t) (up : Int) (hup : expoL E = some up) :
    parseL (printL d ++ E) = some (if (d.s : Int) - up < 0 then norm d.neg (d.n * 10 ^ (up - d.s).toNat) 0 else norm d.neg d.n ((d.s : Int) - up).toNat) := by
  unfold parseL
  rw [sign_print]
  obtain ⟨W, P, hW, hP, hne, hh, hl, hv, e⟩ := bare_form d
  rw [e]
  simp only
  rw [List.append_assoc, plain_form hW hP hne hh hE hE2 up hup, hl, hv]
  split <;> rfl
/-- What was printed is parsed as it was. -/
theorem parse_back {d : Dc} (h : Ok d) : parseL (printL d) = some (some d) := by
  have := parse_print d [] rfl (by simp) 0 rfl
  rw [List.append_nil] at this
  rw [this, if_neg (by omega)]
  have e := normZ_self h
  obtain ⟨e1, e2⟩ := z_neg h
  unfold normZ at e
  rw [e1, e2] at e
  rw [← e]
  congr 2
theorem parse_ok {l : List UInt8} {d : Dc} (h : parseL l = some (some d)) : Ok d := by
  unfold parseL at h
  cases hp : plainN (signL l).2 with
  | none => rw [hp] at h; cases h
  | some x =>
    rw [hp] at h
    injection h with h
    exact (norm_ok h).1
/-- A decimal's text is as long as it says. -/
theorem print_form (d : Dc) : ∃ W P, Digs W ∧ Digs P ∧ W ≠ [] ∧ P.length = d.s ∧ printL d = (if d.neg then [45] else []) ++ (W ++ (if P = [] then [] else 46 :: P)) := by
  obtain ⟨W, P, h1, h2, h3, _, h4, _, h5⟩ := bare_form d
  exact ⟨W, P, h1, h2, h3, h4, by unfold printL; rw [h5]⟩

/-- A whole number. -/
def intD (x : Int) : Dc := ⟨decide (x < 0), x.natAbs, 0⟩
theorem z_int (x : Int) : (intD x).z = x := by
  unfold intD Dc.z
  dsimp only
  by_cases h : x < 0
  · rw [decide_eq_true h, if_pos rfl]; omega
  · rw [decide_eq_false h, if_neg (by simp)]; omega
theorem ok_int {x : Int} (h : x.natAbs < topN) : Ok (intD x) :=
  ⟨h, Nat.zero_le _, fun h0 => ⟨rfl, decide_eq_false (by have : x.natAbs = 0 := h0; omega)⟩, .inl rfl⟩
theorem norm_int {x : Int} (h : x.natAbs < topN) : norm (decide (x < 0)) x.natAbs 0 = some (intD x) := by
  have := normZ_self (ok_int h)
  rw [z_int] at this
  exact this
theorem norm_zero_neg (neg : Bool) (s : Nat) : norm neg 0 s = some zeroD := by unfold norm; rw [if_pos rfl]; rfl
theorem add_int {x y : Int} (h : (x + y).natAbs < topN) : addD (intD x) (intD y) = some (intD (x + y)) := by
  refine addD_is (ok_int h) ?_
  rw [z_int, z_int, z_int]
  have e : ∀ v, (intD v).s = 0 := fun _ => rfl
  simp only [e]
  simp
theorem sub_int {x y : Int} (h : (x - y).natAbs < topN) : subD (intD x) (intD y) = some (intD (x - y)) := by
  refine subD_is (ok_int h) ?_
  rw [z_int, z_int, z_int]
  have e : ∀ v, (intD v).s = 0 := fun _ => rfl
  simp only [e]
  simp
theorem mul_int {x y : Int} (h : (x * y).natAbs < topN) : mulD (intD x) (intD y) = some (intD (x * y)) := by
  refine mulD_is (ok_int h) ?_
  rw [z_int, z_int, z_int]
  have e : ∀ v, (intD v).s = 0 := fun _ => rfl
  simp only [e]
  simp
theorem cmp_int (x y : Int) : cmpD (intD x) (intD y) = sgn (x - y) := by
  unfold cmpD
  rw [z_int, z_int]
  have e : ∀ v, (intD v).s = 0 := fun _ => rfl
  simp only [e]
  simp
/-- To multiply by ten again and again. -/
def tens (d : Dc) : Nat → Option Dc
  | 0 => some d
  | k + 1 => (tens d k).bind fun x => mulD x (intD 10)
theorem norm_none_more {z : Int} {s : Nat} (hs : s ≤ 60) (h : normZ z s = none) : normZ (z * 10) s = none := by
  unfold normZ norm at *
  have hz : z.natAbs ≠ 0 := by
    intro h0
    rw [if_pos h0] at h
    cases h
  have hz2 : (z * 10).natAbs ≠ 0 := by omega
  rw [if_neg hz] at h
  rw [if_neg hz2]
  have hle : ∀ t n : Nat, (redN n t).2 ≤ t := fun t n => by
    obtain ⟨k, _, h2⟩ := redN_val t n
    omega
  have h1 : topN ≤ (redN z.natAbs s).1 := by
    by_cases h2 : topN ≤ (redN z.natAbs s).1 ∨ 60 < (redN z.natAbs s).2
    · rcases h2 with h2 | h2
      · exact h2
      · have := hle s z.natAbs; omega
    · rw [if_neg h2] at h; cases h
  have e : (z * 10).natAbs = z.natAbs * 10 := by omega
  suffices h9 : topN ≤ (redN (z * 10).natAbs s).1 by rw [if_pos (.inl h9)]
  rw [e]
  cases s with
  | zero => show topN ≤ z.natAbs * 10; have : topN ≤ z.natAbs := h1; omega
  | succ s =>
    rw [redN_ten hz]
    have : ∀ t n, (redN n (t + 1)).1 ≤ (redN n t).1 := by
      intro t
      induction t with
      | zero => intro n; unfold redN; split <;> (simp only [redN]; omega)
      | succ t ih =>
        intro n
        by_cases hc : n ≠ 0 ∧ n % 10 = 0
        · have e1 : redN n (t + 1 + 1) = redN (n / 10) (t + 1) := if_pos hc
          have e2 : redN n (t + 1) = redN (n / 10) t := if_pos hc
          rw [e1, e2]
          exact ih _
        · have e1 : redN n (t + 1 + 1) = (n, t + 1 + 1) := if_neg hc
          have e2 : redN n (t + 1) = (n, t + 1) := if_neg hc
          rw [e1, e2]
          exact Nat.le_refl _
    exact Nat.le_trans h1 (this s _)
theorem tens_norm {d : Dc} (hd : Ok d) : ∀ k, tens d k = normZ (d.z * 10 ^ k) d.s
  | 0 => by simp only [tens, Int.pow_zero, Int.mul_one]; exact (normZ_self hd).symm
  | k + 1 => by
    unfold tens
    rw [tens_norm hd k]
    cases h : normZ (d.z * 10 ^ k) d.s with
    | none =>
      rw [Int.pow_succ, ← Int.mul_assoc, norm_none_more hd.2.1 h]
      rfl
    | some x =>
      obtain ⟨h1, h2⟩ := normZ_ok h
      show mulD x (intD 10) = _
      unfold mulD
      rw [z_int]
      have e : (intD 10).s = 0 := rfl
      rw [e, Nat.add_zero]
      refine normZ_eq ?_
      rw [Int.pow_succ]
      grind
/-- With an exponent behind it a decimal is parsed as it is multiplied. -/
theorem parse_expo {d : Dc} (hd : Ok d) (k : Nat) (hk : k < 10) : parseL (printL d ++ [101, UInt8.ofNat (48 + k)]) = some (tens d k) := by
  have hdg : UInt8.ofNat (48 + k) = dg k := by unfold dg; rw [Nat.mod_eq_of_lt hk]
  have hup : expoL [101, UInt8.ofNat (48 + k)] = some (k : Int) := by
    rw [hdg]
    have hD := dg_dig k
    have hl : lead [dg k] = [dg k] ∧ rest [dg k] = [] := lead_all (fun c h => by rw [List.mem_singleton.1 h]; exact hD)
    have hes : expoS [dg k] = some (k : Int) := by
      unfold expoS
      rw [hl.1, hl.2, if_neg (by simp)]
      have : val [dg k] = k := by
        have := val_snoc [] (dg k)
        rw [List.nil_append] at this
        rw [this, dg_toNat]
        simp [val]
        omega
      rw [this]
    unfold Dig at hD
    have h45 : dg k ≠ 45 := by intro e; rw [e] at hD; revert hD; decide
    have h43 : dg k ≠ 43 := by intro e; rw [e] at hD; revert hD; decide
    unfold expoL
    simp only
    rw [if_neg (by decide)]
    split
    · rename_i h; injection h with h; exact absurd h h45
    · rename_i h; injection h with h; exact absurd h h43
    · exact hes
  rw [parse_print d _ (lead_stop (by decide) _).1 (fun t h => by injection h with h; revert h; decide) k hup, tens_norm hd]
  congr 1
  obtain ⟨e1, e2⟩ := z_neg hd
  have key : ∀ n s : Nat, (n : Nat) * 10 ^ s = n * 10 ^ s := fun _ _ => rfl
  have ez : normZ (d.z * 10 ^ k) d.s = norm d.neg (d.n * 10 ^ k) d.s := by
    unfold normZ
    have a1 : decide (d.z * 10 ^ k < 0) = d.neg := by
      rw [← e1, decide_eq_decide]
      have := p10 k
      constructor
      · intro h
        rcases Int.lt_or_le d.z 0 with h2 | h2
        · exact h2
        · have := Int.mul_nonneg h2 (Int.le_of_lt this); omega
      · intro h
        exact Int.mul_neg_of_neg_of_pos h this
    have a2 : (d.z * 10 ^ k).natAbs = d.n * 10 ^ k := by
      rw [Int.natAbs_mul, Int.natAbs_pow, e2]
      rfl
    rw [a1, a2]
  rw [ez]
  by_cases h : (d.s : Int) - (k : Int) < 0
  · rw [if_pos h]
    have e3 : ((k : Int) - (d.s : Int)).toNat = k - d.s := by omega
    have e4 : d.n * 10 ^ k = d.n * 10 ^ (k - d.s) * 10 ^ d.s := by
      rw [Nat.mul_assoc, ← Nat.pow_add]
      congr 2
      omega
    have := norm_pow d.neg (d.n * 10 ^ (k - d.s)) 0 d.s
    rw [Nat.zero_add] at this
    rw [e3, e4, this]
  · rw [if_neg h]
    have e3 : ((d.s : Int) - (k : Int)).toNat = d.s - k := by omega
    have := norm_pow d.neg d.n (d.s - k) k
    have e4 : d.s - k + k = d.s := by omega
    rw [e4] at this
    rw [e3, this]
end Go.Proofs.YtgjffkblhhkjmaaDoor
