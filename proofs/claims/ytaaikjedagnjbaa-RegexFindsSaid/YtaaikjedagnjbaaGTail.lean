/- What stands behind a part does not matter, if it ends there. Plain. -/
import Derived.Test.YtaaikjedagnjbaaRD
namespace Go.Proofs.Ytaaikjedagnjbaa
open Go Go.Lib

/-- The text's end, or a closing bracket. -/
def Stop (T : List Nat) : Prop := T = [] ∨ ∃ r, T = 41 :: r
def Stop3 (T : List Nat) : Prop := T = [] ∨ ∃ c r, T = c :: r ∧ (c = 124 ∨ c = 41)
theorem Stop.three {T : List Nat} (h : Stop T) : Stop3 T := by
  rcases h with h | ⟨r, h⟩
  · exact .inl h
  · exact .inr ⟨41, r, h, .inr rfl⟩
theorem single_pre {L r : List Nat} {x : Nat} (h : singleR L = some (x, r)) : ∃ pre, L = pre ++ r ∧ pre ≠ [] ∧ ∀ r', singleR (pre ++ r') = some (x, r') := by
  cases L with
  | nil => cases h
  | cons c l =>
    rw [single_cons] at h
    split at h
    · rename_i hc
      cases l with
      | nil => cases h
      | cons d l' =>
        have h : (escR d).map (fun x => (x, l')) = some (x, r) := h
        obtain ⟨y, hy, e⟩ := Option.map_eq_some_iff.1 h
        injection e with e1 e2
        subst e1 e2
        refine ⟨[c, d], rfl, by simp, fun r' => ?_⟩
        show singleR (c :: d :: r') = _
        rw [single_cons, if_pos hc]
        show (escR d).map (fun x => (x, r')) = _
        rw [hy]; rfl
    · rename_i hc
      split at h
      · cases h
      · rename_i hm
        injection h with h
        injection h with e1 e2
        subst e1 e2
        refine ⟨[c], rfl, by simp, fun r' => ?_⟩
        show singleR (c :: r') = _
        rw [single_cons, if_neg hc, if_neg hm]
theorem pair_pre {L r : List Nat} {p : Nat × Nat} (h : pairR L = some (p, r)) : ∃ pre, L = pre ++ r ∧ pre ≠ [] ∧ ∀ r', r'.head? = r.head? → pairR (pre ++ r') = some (p, r') := by
  unfold pairR at h
  split at h
  · cases h
  · rename_i lo r1 hs
    obtain ⟨pre, e, hne, hp⟩ := single_pre hs
    cases r1 with
    | nil =>
      injection h with h
      injection h with e1 e2
      subst e1 e2
      refine ⟨pre, e, hne, fun r' hr => ?_⟩
      unfold pairR
      rw [hp r']
      cases r' with
      | nil => rfl
      | cons a l => cases hr
    | cons c r' =>
      dsimp only at h
      split at h
      · rename_i hc
        split at h
        · cases h
        · rename_i hi r'' hs2
          obtain ⟨pre2, e2, hne2, hp2⟩ := single_pre hs2
          split at h
          · cases h
          · rename_i hlt
            injection h with h
            injection h with e3 e4
            subst e3 e4
            refine ⟨pre ++ c :: pre2, by rw [e, e2, List.append_assoc]; rfl, by simp, fun r3 _ => ?_⟩
            unfold pairR
            rw [List.append_assoc, List.cons_append, hp]
            dsimp only
            rw [if_pos hc, hp2]
            dsimp only
            rw [if_neg hlt]
      · rename_i hc
        injection h with h
        injection h with e3 e4
        subst e3 e4
        refine ⟨pre, e, hne, fun r3 hr => ?_⟩
        unfold pairR
        rw [hp]
        cases r3 with
        | nil => rfl
        | cons a l =>
          injection hr with hr
          subst hr
          dsimp only
          rw [if_neg hc]
theorem item_pre {L r : List Nat} {x : List (Nat × Nat)} (h : itemR L = some (x, r)) : ∃ pre, L = pre ++ r ∧ pre ≠ [] ∧ ∀ r', r'.head? = r.head? → itemR (pre ++ r') = some (x, r') := by
  cases hc : clsB L with
  | true =>
    obtain ⟨b, l, rfl, hb⟩ := cls_shape hc
    rw [item_cls hc] at h
    injection h with h
    injection h with e1 e2
    have e2 : l = r := e2
    have e1 : classR b = x := e1
    subst e1 e2
    refine ⟨[92, b], rfl, by simp, fun r' _ => ?_⟩
    have hc' : clsB (92 :: b :: r') = true := by
      unfold clsB
      exact decide_eq_true ⟨rfl, hb⟩
    exact item_cls hc'
  | false =>
    rw [item_pair hc] at h
    obtain ⟨⟨p, r1⟩, hp, e⟩ := Option.map_eq_some_iff.1 h
    injection e with e1 e2
    subst e1 e2
    obtain ⟨pre, e, hne, hq⟩ := pair_pre hp
    refine ⟨pre, e, hne, fun r' hr => ?_⟩
    have hc' : clsB (pre ++ r') = false := by
      have e3 : (pre ++ r').head? = L.head? ∧ ((pre ++ r').drop 1).headD 0 = (L.drop 1).headD 0 := by
        rw [e]
        cases pre with
        | nil => exact absurd rfl hne
        | cons a q =>
          cases q with
          | nil =>
            refine ⟨rfl, ?_⟩
            show r'.headD 0 = r1.headD 0
            cases r' <;> cases r1 <;> simp_all
          | cons b q => exact ⟨rfl, rfl⟩
      unfold clsB at hc ⊢
      rw [e3.1, e3.2]
      exact hc
    rw [item_pair hc', hq r' hr]
    rfl
theorem items_pre : ∀ (f : Nat) (acc : List (Nat × Nat)) (L : List Nat) (x : List (Nat × Nat)) (r : List Nat), itemsR f acc L = some (x, r) → ∃ pre, L = pre ++ r ∧ pre ≠ [] ∧ ∀ r' g, f ≤ g → itemsR g acc (pre ++ r') = some (x, r')
  | 0, _, _, _, _, h => by cases h
  | f + 1, acc, L, x, r, h => by
    unfold itemsR at h
    cases L with
    | nil => cases h
    | cons c l =>
      dsimp only at h
      split at h
      · rename_i hc
        injection h with h
        injection h with e1 e2
        subst e1 e2
        refine ⟨[c], rfl, by simp, fun r' g hg => ?_⟩
        obtain ⟨g, rfl⟩ : ∃ k, g = k + 1 := ⟨g - 1, by omega⟩
        show itemsR (g + 1) acc (c :: r') = _
        unfold itemsR
        dsimp only
        rw [if_pos hc]
      · rename_i hc
        split at h
        · cases h
        · rename_i y l1 hi
          obtain ⟨pre, e, hne, hp⟩ := item_pre hi
          obtain ⟨pre2, e2, hne2, hp2⟩ := items_pre f _ _ _ _ h
          refine ⟨pre ++ pre2, by rw [e, e2, List.append_assoc], by simp [hne], fun r' g hg => ?_⟩
          obtain ⟨g, rfl⟩ : ∃ k, g = k + 1 := ⟨g - 1, by omega⟩
          have hh : (pre2 ++ r').head? = l1.head? := by
            rw [e2]
            cases pre2 with
            | nil => exact absurd rfl hne2
            | cons a q => rfl
          have h1 := hp (pre2 ++ r') hh
          rw [List.append_assoc]
          cases pre with
          | nil => exact absurd rfl hne
          | cons a q =>
            have hac : a = c := by injection e with e _; exact e.symm
            subst hac
            show itemsR (g + 1) acc (a :: (q ++ (pre2 ++ r'))) = _
            unfold itemsR
            dsimp only
            rw [if_neg hc]
            have h1 : itemR (a :: (q ++ (pre2 ++ r'))) = some (y, pre2 ++ r') := h1
            rw [h1]
            exact hp2 r' g (by omega)
theorem brack_pre {L r : List Nat} {x : Re} (h : brackR L = some (x, r)) : ∃ pre, L = pre ++ r ∧ ∀ r', brackR (pre ++ r') = some (x, r') := by
  unfold brackR at h
  split at h
  · cases h
  · rename_i s l1 hi
    split at h
    · cases h
    · rename_i hs
      injection h with h
      injection h with e1 e2
      subst e1 e2
      by_cases hc : L.head? = some 94
      · rw [if_pos hc] at hi
        obtain ⟨pre, e, hne, hp⟩ := items_pre _ _ _ _ _ hi
        cases L with
        | nil => cases hc
        | cons a l =>
          have e : l = pre ++ l1 := e
          refine ⟨a :: pre, by rw [e]; rfl, fun r' => ?_⟩
          have hc' : (a :: pre ++ r').head? = some 94 := hc
          unfold brackR
          rw [if_pos hc']
          have hi2 : itemsR ((a :: pre ++ r').length + 1) [] ((a :: pre ++ r').drop 1) = some (s, r') := by
            show itemsR ((a :: (pre ++ r')).length + 1) [] (pre ++ r') = _
            rw [items_fuel _ ((a :: l).length + 1 + r'.length) [] (pre ++ r') (by simp; omega) (by rw [e]; simp; omega)]
            exact hp r' _ (by omega)
          rw [hi2]
          dsimp only
          rw [if_neg hs, hc', hc]
      · rw [if_neg hc] at hi
        obtain ⟨pre, e, hne, hp⟩ := items_pre _ _ _ _ _ hi
        refine ⟨pre, e, fun r' => ?_⟩
        have hh : (pre ++ r').head? = L.head? := by
          rw [e]
          cases pre with
          | nil => exact absurd rfl hne
          | cons a q => rfl
        have hc' : ¬ (pre ++ r').head? = some 94 := by rw [hh]; exact hc
        unfold brackR
        rw [if_neg hc']
        have hi2 : itemsR ((pre ++ r').length + 1) [] (pre ++ r') = some (s, r') := by
          rw [items_fuel _ (L.length + 1 + r'.length) [] (pre ++ r') (by omega) (by rw [e]; simp; omega)]
          exact hp r' _ (by omega)
        rw [hi2]
        dsimp only
        rw [if_neg hs, decide_eq_false hc, decide_eq_false hc']
theorem slash_pre {L r : List Nat} {x : Re} (h : slashR L = some (x, r)) : ∃ pre, L = pre ++ r ∧ ∀ r', slashR (pre ++ r') = some (x, r') := by
  cases L with
  | nil => cases h
  | cons c l =>
    rw [slash_cons] at h
    split at h
    · rename_i hc
      injection h with h
      injection h with e1 e2
      subst e1 e2
      exact ⟨[c], rfl, fun r' => by show slashR (c :: r') = _; rw [slash_cons, if_pos hc]⟩
    · rename_i hc
      obtain ⟨y, hy, e⟩ := Option.map_eq_some_iff.1 h
      injection e with e1 e2
      subst e1 e2
      exact ⟨[c], rfl, fun r' => by show slashR (c :: r') = _; rw [slash_cons, if_neg hc, hy]; rfl⟩
/-- The first rune of what stands behind tells whether there is a sign. -/
theorem sign_pre (re : Re) (L : List Nat) : ∃ pre, L = pre ++ (signR re L).2 ∧ ∀ r', (pre = [] → Stop3 r' ∨ r'.head? = L.head?) → signR re (pre ++ r') = ((signR re L).1, r') := by
  have key : ∀ r' : List Nat, Stop3 r' → signR re r' = (re, r') := fun r' h => by
    rcases h with rfl | ⟨c, r, rfl, hc⟩
    · rfl
    · rw [sign_cons, if_neg (by omega), if_neg (by omega), if_neg (by omega)]
  cases L with
  | nil =>
    refine ⟨[], rfl, fun r' h => ?_⟩
    rcases h rfl with h | h
    · exact key r' h
    · cases r' with
      | nil => rfl
      | cons a q => cases h
  | cons c l =>
    by_cases h1 : c = 42
    · subst h1
      exact ⟨[42], rfl, fun r' _ => rfl⟩
    · by_cases h2 : c = 43
      · subst h2
        exact ⟨[43], rfl, fun r' _ => rfl⟩
      · by_cases h3 : c = 63
        · subst h3
          exact ⟨[63], rfl, fun r' _ => rfl⟩
        · have e : signR re (c :: l) = (re, c :: l) := by rw [sign_cons, if_neg h1, if_neg h2, if_neg h3]
          rw [e]
          refine ⟨[], rfl, fun r' h => ?_⟩
          rcases h rfl with h | h
          · exact key r' h
          · cases r' with
            | nil => cases h
            | cons a q =>
              injection h with h
              subst h
              show signR re (a :: q) = _
              rw [sign_cons, if_neg h1, if_neg h2, if_neg h3]
theorem stop3_front {l pre r r' : List Nat} (h : Stop3 l) (e : l = pre ++ r) (hr : Stop3 r') : Stop3 (pre ++ r') := by
  cases pre with
  | nil => exact hr
  | cons a q =>
    rcases h with h | ⟨c, t, h, hc⟩
    · rw [h] at e; cases e
    · rw [h] at e
      injection e with e1 e2
      exact .inr ⟨a, q ++ r', rfl, by rw [← e1]; exact hc⟩
theorem tail_all : ∀ f : Nat,
    (∀ d L x r, altF f d L = some (x, r) → Stop r ∧ ∃ pre, L = pre ++ r ∧ ∀ r' d' g, Stop r' → d' ≤ d → f ≤ g → altF g d' (pre ++ r') = some (x, r')) ∧
    (∀ d a L x r, barF f d a L = some (x, r) → (Stop3 L → Stop r) ∧ ∃ pre, L = pre ++ r ∧ (Stop3 L → ∀ r' d' g, Stop r' → d' ≤ d → f ≤ g → barF g d' a (pre ++ r') = some (x, r'))) ∧
    (∀ d a L x r, seqF f d a L = some (x, r) → Stop3 r ∧ ∃ pre, L = pre ++ r ∧ ∀ r' d' g, Stop3 r' → d' ≤ d → f ≤ g → seqF g d' a (pre ++ r') = some (x, r')) ∧
    (∀ d L x r, atomF f d L = some (x, r) → ∃ pre, L = pre ++ r ∧ pre ≠ [] ∧ ∀ r' d' g, d' ≤ d → f ≤ g → atomF g d' (pre ++ r') = some (x, r')) := by
  intro f
  induction f with
  | zero => exact ⟨fun d L x r h => (by unfold altF at h; cases h), fun d a L x r h => (by unfold barF at h; cases h), fun d a L x r h => (by unfold seqF at h; cases h), fun d L x r h => (by unfold atomF at h; cases h)⟩
  | succ f ih =>
    obtain ⟨ihA, ihB, ihS, ihT⟩ := ih
    refine ⟨fun d L x r h => ?_, fun d a L x r h => ?_, fun d a L x r h => ?_, fun d L x r h => ?_⟩
    · unfold altF at h
      split at h
      · cases h
      · rename_i r1 l1 hs
        obtain ⟨st1, pre1, e1, hp1⟩ := ihS _ _ _ _ _ hs
        obtain ⟨st2, pre2, e2, hp2⟩ := ihB _ _ _ _ _ h
        refine ⟨st2 st1, pre1 ++ pre2, by rw [e1, e2, List.append_assoc], fun r' d' g hr hd hg => ?_⟩
        obtain ⟨g, rfl⟩ : ∃ k, g = k + 1 := ⟨g - 1, by omega⟩
        rw [List.append_assoc]
        unfold altF
        rw [hp1 (pre2 ++ r') d' g (stop3_front st1 e2 hr.three) hd (by omega)]
        exact hp2 st1 r' d' g hr hd (by omega)
    · unfold barF at h
      cases L with
      | nil =>
        injection h with h
        injection h with e1 e2
        subst e1 e2
        refine ⟨fun _ => .inl rfl, [], rfl, fun _ r' d' g hr hd hg => ?_⟩
        obtain ⟨g, rfl⟩ : ∃ k, g = k + 1 := ⟨g - 1, by omega⟩
        show barF (g + 1) d' a r' = _
        unfold barF
        rcases hr with rfl | ⟨q, rfl⟩ <;> rfl
      | cons c l1 =>
        dsimp only at h
        split at h
        · rename_i hc
          subst hc
          split at h
          · cases h
          · rename_i r2 l2 hs
            obtain ⟨st1, pre1, e1, hp1⟩ := ihS _ _ _ _ _ hs
            obtain ⟨st2, pre2, e2, hp2⟩ := ihB _ _ _ _ _ h
            refine ⟨fun _ => st2 st1, 124 :: pre1 ++ pre2, by rw [e1, e2]; simp, fun _ r' d' g hr hd hg => ?_⟩
            obtain ⟨g, rfl⟩ : ∃ k, g = k + 1 := ⟨g - 1, by omega⟩
            have e3 : 124 :: pre1 ++ pre2 ++ r' = 124 :: (pre1 ++ (pre2 ++ r')) := by simp
            rw [e3]
            unfold barF
            dsimp only
            rw [if_pos rfl, hp1 (pre2 ++ r') d' g (stop3_front st1 e2 hr.three) hd (by omega)]
            exact hp2 st1 r' d' g hr hd (by omega)
        · rename_i hc
          injection h with h
          injection h with e1 e2
          subst e1 e2
          refine ⟨fun hst => ?_, [], rfl, fun _ r' d' g hr hd hg => ?_⟩
          · rcases hst with h | ⟨c', t, h, h'⟩
            · cases h
            · injection h with h1 h2
              subst h1 h2
              rcases h' with h' | h'
              · exact absurd h' hc
              · subst h'
                exact .inr ⟨_, rfl⟩
          · obtain ⟨g, rfl⟩ : ∃ k, g = k + 1 := ⟨g - 1, by omega⟩
            show barF (g + 1) d' a r' = _
            unfold barF
            rcases hr with rfl | ⟨q, rfl⟩ <;> rfl
    · unfold seqF at h
      have stopk : ∀ (r' : List Nat) (d' g : Nat) (a : Re), Stop3 r' → seqF (g + 1) d' a r' = some (a, r') := fun r' d' g a hr => by
        unfold seqF
        rcases hr with rfl | ⟨c, q, rfl, hc⟩
        · rfl
        · dsimp only
          rw [if_pos hc]
      cases L with
      | nil =>
        injection h with h
        injection h with e1 e2
        subst e1 e2
        refine ⟨.inl rfl, [], rfl, fun r' d' g hr hd hg => ?_⟩
        obtain ⟨g, rfl⟩ : ∃ k, g = k + 1 := ⟨g - 1, by omega⟩
        exact stopk r' d' g _ hr
      | cons c l1 =>
        dsimp only at h
        split at h
        · rename_i hc
          injection h with h
          injection h with e1 e2
          subst e1 e2
          refine ⟨.inr ⟨c, l1, rfl, hc⟩, [], rfl, fun r' d' g hr hd hg => ?_⟩
          obtain ⟨g, rfl⟩ : ∃ k, g = k + 1 := ⟨g - 1, by omega⟩
          exact stopk r' d' g _ hr
        · rename_i hc
          split at h
          · cases h
          · rename_i re l2 ha
            obtain ⟨pre1, e1, hne1, hp1⟩ := ihT _ _ _ _ ha
            obtain ⟨pre2, e2, hp2⟩ := sign_pre re l2
            obtain ⟨st3, pre3, e3, hp3⟩ := ihS _ _ _ _ _ h
            refine ⟨st3, pre1 ++ pre2 ++ pre3, by rw [e1]; conv => lhs; rw [e2, e3]
                                                  simp, fun r' d' g hr hd hg => ?_⟩
            obtain ⟨g, rfl⟩ : ∃ k, g = k + 1 := ⟨g - 1, by omega⟩
            have hsg : signR re (pre2 ++ (pre3 ++ r')) = ((signR re l2).1, pre3 ++ r') := hp2 (pre3 ++ r') (fun h0 => by
              cases pre3 with
              | nil => exact .inl hr
              | cons b q =>
                right
                rw [e2, h0, e3]
                rfl)
            have hat := hp1 (pre2 ++ (pre3 ++ r')) d' g hd (by omega)
            have e4 : pre1 ++ pre2 ++ pre3 ++ r' = pre1 ++ (pre2 ++ (pre3 ++ r')) := by simp
            rw [e4]
            cases pre1 with
            | nil => exact absurd rfl hne1
            | cons b q =>
              have hbc : b = c := by injection e1 with e1 _; exact e1.symm
              subst hbc
              show seqF (g + 1) d' a (b :: (q ++ (pre2 ++ (pre3 ++ r')))) = _
              unfold seqF
              dsimp only
              rw [if_neg hc]
              have hat : atomF g d' (b :: (q ++ (pre2 ++ (pre3 ++ r')))) = some (re, pre2 ++ (pre3 ++ r')) := hat
              rw [hat]
              dsimp only
              rw [hsg]
              exact hp3 r' d' g hr hd (by omega)
    · unfold atomF at h
      cases L with
      | nil => cases h
      | cons c l1 =>
        dsimp only at h
        have step : ∀ (g d' : Nat) (q : List Nat), atomF (g + 1) d' (c :: q) = if c = 40 then (if 6 ≤ d' then none else match altF g (d' + 1) q with
            | none => none
            | some (r, l2) => match l2 with
              | [] => none
              | e :: l3 => if e = 41 then some (r, l3) else none)
          else if c = 91 then brackR q else if c = 46 then some (.cls fun x => decide (x ≠ 10), q) else if c = 94 then some (.bol, q) else if c = 36 then some (.eol, q)
          else if c = 92 then slashR q else if markR c then none else some (.cls fun x => decide (x = c), q) := fun g d' q => by
          conv => lhs; unfold atomF
          rfl
        split at h
        · rename_i hc
          split at h
          · cases h
          · rename_i hd6
            split at h
            · cases h
            · rename_i r1 l2 ha
              obtain ⟨st, pre, e, hp⟩ := ihA _ _ _ _ ha
              cases l2 with
              | nil => cases h
              | cons e' l3 =>
                dsimp only at h
                split at h
                · rename_i h41
                  subst h41
                  injection h with h
                  injection h with e1 e2
                  subst e1 e2
                  refine ⟨c :: pre ++ [41], by rw [e]; simp, by simp, fun r' d' g hd hg => ?_⟩
                  obtain ⟨g, rfl⟩ : ∃ k, g = k + 1 := ⟨g - 1, by omega⟩
                  have e3 : c :: pre ++ [41] ++ r' = c :: (pre ++ 41 :: r') := by simp
                  rw [e3, step, if_pos hc, if_neg (by omega), hp (41 :: r') (d' + 1) g (.inr ⟨r', rfl⟩) (by omega) (by omega)]
                  rfl
                · cases h
        · rename_i h40
          have fin : ∀ {y : Re} {q : List Nat}, (∀ r' d' g, d' ≤ d → f + 1 ≤ g → atomF g d' (c :: r') = some (y, r')) → some (y, l1) = some (x, r) → ∃ pre, c :: l1 = pre ++ r ∧ pre ≠ [] ∧ ∀ r' d' g, d' ≤ d → f + 1 ≤ g → atomF g d' (pre ++ r') = some (x, r') := fun {y q} hk e => by
            injection e with e
            injection e with e1 e2
            subst e1 e2
            exact ⟨[c], rfl, by simp, hk⟩
          split at h
          · rename_i h91
            obtain ⟨pre, e, hp⟩ := brack_pre h
            refine ⟨c :: pre, by rw [e]; rfl, by simp, fun r' d' g hd hg => ?_⟩
            obtain ⟨g, rfl⟩ : ∃ k, g = k + 1 := ⟨g - 1, by omega⟩
            show atomF (g + 1) d' (c :: (pre ++ r')) = _
            rw [step, if_neg h40, if_pos h91, hp r']
          · rename_i h91
            split at h
            · rename_i h46
              refine fin (q := []) (fun r' d' g hd hg => ?_) h
              obtain ⟨g, rfl⟩ : ∃ k, g = k + 1 := ⟨g - 1, by omega⟩
              rw [step, if_neg h40, if_neg h91, if_pos h46]
            · rename_i h46
              split at h
              · rename_i h94
                refine fin (q := []) (fun r' d' g hd hg => ?_) h
                obtain ⟨g, rfl⟩ : ∃ k, g = k + 1 := ⟨g - 1, by omega⟩
                rw [step, if_neg h40, if_neg h91, if_neg h46, if_pos h94]
              · rename_i h94
                split at h
                · rename_i h36
                  refine fin (q := []) (fun r' d' g hd hg => ?_) h
                  obtain ⟨g, rfl⟩ : ∃ k, g = k + 1 := ⟨g - 1, by omega⟩
                  rw [step, if_neg h40, if_neg h91, if_neg h46, if_neg h94, if_pos h36]
                · rename_i h36
                  split at h
                  · rename_i h92
                    obtain ⟨pre, e, hp⟩ := slash_pre h
                    refine ⟨c :: pre, by rw [e]; rfl, by simp, fun r' d' g hd hg => ?_⟩
                    obtain ⟨g, rfl⟩ : ∃ k, g = k + 1 := ⟨g - 1, by omega⟩
                    show atomF (g + 1) d' (c :: (pre ++ r')) = _
                    rw [step, if_neg h40, if_neg h91, if_neg h46, if_neg h94, if_neg h36, if_pos h92, hp r']
                  · rename_i h92
                    split at h
                    · cases h
                    · rename_i hm
                      refine fin (q := []) (fun r' d' g hd hg => ?_) h
                      obtain ⟨g, rfl⟩ : ∃ k, g = k + 1 := ⟨g - 1, by omega⟩
                      rw [step, if_neg h40, if_neg h91, if_neg h46, if_neg h94, if_neg h36, if_neg h92, if_neg hm]
end Go.Proofs.Ytaaikjedagnjbaa
