/- The reader's items: what they are. -/
import Derived.Test.YtaaikjedagnjbaaGSlash
namespace Go.Proofs.Ytaaikjedagnjbaa
open Go Go.RowKit Go.Lib

/-- One item but a class: its runes. -/
def pairR (l : List Nat) : Option ((Nat × Nat) × List Nat) :=
  match singleR l with
  | none => none
  | some (lo, r) => match r with
    | [] => some ((lo, lo), [])
    | c :: r' => if c = 45 then (match singleR r' with | none => none | some (hi, r'') => if hi < lo then none else some ((lo, hi), r'')) else some ((lo, lo), c :: r')
/-- Whether an item is a class. -/
def clsB (l : List Nat) : Bool := decide (l.head? = some 92 ∧ classR ((l.drop 1).headD 0) ≠ [])
theorem item_cls {l : List Nat} (h : clsB l = true) : itemR l = some (classR ((l.drop 1).headD 0), l.drop 2) := by
  unfold itemR
  rw [if_pos (of_decide_eq_true h)]
theorem item_pair {l : List Nat} (h : clsB l = false) : itemR l = (pairR l).map fun p => ([p.1], p.2) := by
  unfold itemR pairR
  rw [if_neg (of_decide_eq_false h)]
  cases singleR l with
  | none => rfl
  | some p =>
    obtain ⟨lo, r⟩ := p
    cases r with
    | nil => rfl
    | cons c r' =>
      dsimp only
      split
      · cases singleR r' with
        | none => rfl
        | some q =>
          obtain ⟨hi, r''⟩ := q
          dsimp only
          split <;> rfl
      · rfl
/-- Items up to a bracket, behind some. -/
def itemsOf (acc : List (Nat × Nat)) (l : List Nat) : Option (List (Nat × Nat) × List Nat) := itemsR (l.length + 1) acc l
theorem itemsOf_nil (acc : List (Nat × Nat)) : itemsOf acc [] = none := rfl
theorem itemsOf_end (acc : List (Nat × Nat)) (r : List Nat) : itemsOf acc (93 :: r) = some (acc, r) := by
  unfold itemsOf
  unfold itemsR
  simp
theorem itemsOf_cons (acc : List (Nat × Nat)) {c : Nat} (r : List Nat) (hc : c ≠ 93) : itemsOf acc (c :: r) = (itemR (c :: r)).bind fun p => itemsOf (acc ++ p.1) p.2 := by
  unfold itemsOf
  conv => lhs; unfold itemsR
  simp only [if_neg hc]
  cases h : itemR (c :: r) with
  | none => rfl
  | some p =>
    obtain ⟨x, l1⟩ := p
    have h2 : l1.length < (c :: r).length := item_len h
    show itemsR (c :: r).length (acc ++ x) l1 = itemsR (l1.length + 1) (acc ++ x) l1
    exact items_fuel _ _ (acc ++ x) l1 h2 (Nat.lt_succ_self _)
theorem itemsOf_none {acc : List (Nat × Nat)} {l : List Nat} (h : hits [93] false l = false) (hi : itemR l = none) : itemsOf acc l = none := by
  cases l with
  | nil => rfl
  | cons c r =>
    have hc : c ≠ 93 := fun e => by subst e; cases h
    rw [itemsOf_cons acc r hc, hi]; rfl
theorem itemsOf_some {acc x : List (Nat × Nat)} {l l1 : List Nat} (h : hits [93] false l = false) (hi : itemR l = some (x, l1)) : itemsOf acc l = itemsOf (acc ++ x) l1 := by
  cases l with
  | nil => have := item_len hi; simp at this
  | cons c r =>
    have hc : c ≠ 93 := fun e => by subst e; cases h
    rw [itemsOf_cons acc r hc, hi]; rfl
/-- What stands behind a bracket, by its items. -/
def brackOf (nt : Bool) : Option (List (Nat × Nat) × List Nat) → Option (Re × List Nat)
  | none => none
  | some (s, l1) => if s = [] then none else some (.cls fun c => inR s c != nt, l1)
theorem brack_of (L : List Nat) (nt : Bool) (h : nt = hits [94] false L) : brackR L = brackOf nt (itemsOf [] (if nt then L.tail else L)) := by
  unfold brackR
  cases L with
  | nil => subst h; rfl
  | cons c r =>
    by_cases hc : c = 94
    · subst hc
      subst h
      show (match itemsR ((94 :: r).length + 1) [] r with | none => none | some (s, l1) => if s = [] then none else some (Re.cls fun c => inR s c != true, l1)) = brackOf true (itemsOf [] r)
      unfold itemsOf
      rw [items_fuel ((94 :: r).length + 1) (r.length + 1) [] r (by simp only [List.length_cons]; omega) (by omega)]
      rfl
    · have e1 : nt = false := by
        rw [h]
        show (!false && ([94] : List UInt8).any fun b => b.toNat == c) = false
        simp
        omega
      subst e1
      have e2 : ¬ (c :: r).head? = some 94 := by simpa using hc
      rw [if_neg e2]
      have e3 : decide ((c :: r).head? = some 94) = false := decide_eq_false e2
      rw [e3]
      rfl
theorem items_got {w w' : World} {rb mb d : Nat} {N E E' R : Nat → Prop} {M : List St} {L Lt : List Nat} {acc : List (Nat × Nat)} {nt bad bo : Bool} {res : Option (Re × List Nat)} {its : Option (List (Nat × Nat) × List Nat)} {e : Ending}
    (hres : res = brackOf nt its) (hi : (bad = true ∧ its = none) ∨ (bad = false ∧ its = some (acc, Lt))) (he : e = .returned (partV (M.length + 1) M.length)) (hbo : bo = (bad || decide (acc.length = 0)))
    (h : Ready w' rb mb N E' R (M ++ [⟨none, none, []⟩, { (⟨none, none, [M.length]⟩ : St) with tk := some fun c => inR acc c != nt }]) Lt d bo) (r : Rew w E rb w' E') (hL : Lt.length ≤ L.length) (hd : d ≤ 7) :
    Got w rb mb N E R M L d 0 3 res e w' := by
  subst he
  have hb : bo = res.isNone := by
    rw [hres, hbo]
    rcases hi with ⟨rfl, rfl⟩ | ⟨rfl, rfl⟩
    · rfl
    · simp only [Bool.false_or, brackOf]
      by_cases ha : acc = []
      · rw [if_pos ha, ha]; rfl
      · rw [if_neg ha]
        have : acc.length ≠ 0 := fun e => ha (List.eq_nil_of_length_eq_zero e)
        rw [decide_eq_false this]; rfl
  refine got_rune rfl h r hL hd hb (fun re r' e => ?_)
  rw [hres] at e
  rcases hi with ⟨rfl, rfl⟩ | ⟨rfl, rfl⟩
  · cases e
  · simp only [brackOf] at e
    split at e
    · cases e
    · injection e with e
      injection e with e1 e2
      subst e1 e2
      exact ⟨rfl, cls_frag M _⟩
theorem spanInfo : (Try.prog.info? 102).map (fun i => (i.zero, i.size, i.bytes)) = some (some (.agg #[.int .i32 0, .int .i32 0]), 2, 8) := by kernel_rfl
theorem spansV_snoc (l m : List (Nat × Nat)) : spansV (l ++ m) = spansV l ++ spansV m := by simp [spansV]
theorem spansV_one (l : List (Nat × Nat)) : ∀ u ∈ spansV l, u.oneCell' = true := by
  intro u hu
  obtain ⟨s, _, hs⟩ := List.mem_flatMap.1 hu
  simp only [spanV, List.mem_cons, List.not_mem_nil, or_false] at hs
  rcases hs with h | h <;> rw [h] <;> rfl
theorem class_len (c : Nat) : (classR c).length ≤ 4 := by unfold classR; split; decide; split; decide; split; decide; decide
theorem cls_shape {l : List Nat} (h : clsB l = true) : ∃ b r, l = 92 :: b :: r ∧ classR b ≠ [] := by
  obtain ⟨h1, h2⟩ := of_decide_eq_true h
  cases l with
  | nil => cases h1
  | cons a r =>
    injection h1 with h1
    subst h1
    cases r with
    | nil => exact absurd rfl h2
    | cons b r => exact ⟨b, r, rfl, h2⟩
end Go.Proofs.Ytaaikjedagnjbaa
