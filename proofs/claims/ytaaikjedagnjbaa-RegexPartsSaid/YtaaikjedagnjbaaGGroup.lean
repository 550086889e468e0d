/- Patterns in brackets. Plain. -/
import Derived.Test.YtaaikjedagnjbaaGTail
import Derived.Test.YtaaikjedagnjbaaGEval
namespace Go.Proofs.Ytaaikjedagnjbaa
open Go Go.Lib

theorem altR_tail {d : Nat} {L r : List Nat} {x : Re} (h : altR d L = some (x, r)) : Stop r ∧ ∃ pre, L = pre ++ r ∧ ∀ r' d', Stop r' → d' ≤ d → altR d' (pre ++ r') = some (x, r') := by
  obtain ⟨h1, pre, e, hp⟩ := (tail_all (4 * L.length + 4)).1 d L x r h
  refine ⟨h1, pre, e, fun r' d' hr hd => ?_⟩
  have h2 := hp r' d' (4 * L.length + 4 + 4 * (pre ++ r').length) hr hd (by omega)
  rw [altR_eq _ _ _ (by omega)] at h2
  exact h2
theorem parse_alt {P : List Nat} {a : Re} (h : parseR P = some a) : altR 0 P = some (a, []) := by
  unfold parseR at h
  cases ha : altR 0 P with
  | none => rw [ha] at h; cases h
  | some p =>
    obtain ⟨x, r⟩ := p
    rw [ha] at h
    have h : (if r = [] then some x else none) = some a := h
    split at h
    · rename_i hr
      injection h with h
      rw [h, hr]
    · cases h
theorem group_inv {d : Nat} {l r : List Nat} {x : Re} (h : altR d (40 :: l) = some (x, r)) : ∃ y l3, altR (d + 1) l = some (y, 41 :: l3) := by
  rw [alt_step] at h
  obtain ⟨p, hp, -⟩ := Option.bind_eq_some_iff.1 h
  rw [seq_cons, if_neg (by omega)] at hp
  obtain ⟨q, hq, -⟩ := Option.bind_eq_some_iff.1 hp
  rw [atom_cons, if_pos rfl] at hq
  split at hq
  · cases hq
  · obtain ⟨z, hz, hq⟩ := Option.bind_eq_some_iff.1 hq
    obtain ⟨y, l2⟩ := z
    cases l2 with
    | nil => cases hq
    | cons e l3 =>
      have hq : (if e = 41 then some (y, l3) else none) = some q := hq
      split at hq
      · rename_i he
        subst he
        exact ⟨y, l3, hz⟩
      · cases hq
/-- A pattern that is one in two brackets, too. -/
theorem deep_ok {P : List Nat} {a x : Re} (h : parseR P = some a) (h2 : parseR ([40, 40] ++ P ++ [41, 41]) = some x) (d' : Nat) (r' : List Nat) (hd : d' ≤ 2) (hr : Stop r') : altR d' (P ++ r') = some (a, r') := by
  have e : [40, 40] ++ P ++ [41, 41] = 40 :: 40 :: (P ++ [41, 41]) := by simp
  rw [e] at h2
  obtain ⟨y1, l1, h3⟩ := group_inv (parse_alt h2)
  obtain ⟨y2, l2, h4⟩ := group_inv h3
  obtain ⟨-, pre, e1, hp⟩ := altR_tail h4
  obtain ⟨-, pre0, e0, hp0⟩ := altR_tail (parse_alt h)
  rw [List.append_nil] at e0
  subst e0
  have h5 := hp (41 :: l2) 0 (.inr ⟨_, rfl⟩) (Nat.zero_le _)
  have h6 := hp0 [41, 41] 0 (.inr ⟨_, rfl⟩) (Nat.le_refl _)
  rw [← e1, h6] at h5
  injection h5 with h5
  injection h5 with h7 h8
  rw [← h8] at e1
  have e2 : P = pre := List.append_cancel_right e1
  subst e2
  rw [h7]
  exact hp r' d' hr hd
theorem group_atom {P R : List Nat} {a : Re} (h : ∀ d' r', d' ≤ 2 → Stop r' → altR d' (P ++ r') = some (a, r')) : atomR 0 (40 :: (P ++ 41 :: R)) = some (a, R) := by
  rw [atom_cons, if_pos rfl, if_neg (by omega), h 1 (41 :: R) (by omega) (.inr ⟨_, rfl⟩)]
  rfl
theorem seq_bar (acc : Re) (R : List Nat) : seqR 0 acc (124 :: R) = some (acc, 124 :: R) := by rw [seq_cons, if_pos (.inl rfl)]
theorem parse_seq {R : List Nat} {l : List Nat} {acc x : Re} (h : seqR 0 .eps l = seqR 0 acc R) (h2 : seqR 0 acc R = some (x, [])) : parseR l = some x := by
  unfold parseR
  rw [alt_step, h, h2]
  show (barR 0 x []).bind _ = _
  rw [bar_nil]
  rfl
section
variable {P Q : List Nat} {a b : Re} (hP : ∀ d' r', d' ≤ 2 → Stop r' → altR d' (P ++ r') = some (a, r')) (hQ : ∀ d' r', d' ≤ 2 → Stop r' → altR d' (Q ++ r') = some (b, r'))
include hP
theorem group_seq (acc : Re) (R : List Nat) : seqR 0 acc (40 :: (P ++ 41 :: R)) = seqR 0 (.seq acc (signR a R).1) (signR a R).2 := seq_go (by omega) (group_atom hP) acc
theorem parse_group : parseR ([40] ++ P ++ [41]) = some (.seq .eps a) := by
  have e : [40] ++ P ++ [41] = 40 :: (P ++ 41 :: []) := by simp
  rw [e]
  exact parse_seq (group_seq hP .eps []) (seq_nil _ _)
theorem parse_opt : parseR ([40] ++ P ++ [41, 63]) = some (.seq .eps (.opt a)) := by
  have e : [40] ++ P ++ [41, 63] = 40 :: (P ++ 41 :: [63]) := by simp
  rw [e]
  exact parse_seq (group_seq hP .eps [63]) (seq_nil _ _)
theorem parse_star : parseR ([40] ++ P ++ [41, 42]) = some (.seq .eps (.star a)) := by
  have e : [40] ++ P ++ [41, 42] = 40 :: (P ++ 41 :: [42]) := by simp
  rw [e]
  exact parse_seq (group_seq hP .eps [42]) (seq_nil _ _)
theorem parse_plus : parseR ([40] ++ P ++ [41, 43]) = some (.seq .eps (.plus a)) := by
  have e : [40] ++ P ++ [41, 43] = 40 :: (P ++ 41 :: [43]) := by simp
  rw [e]
  exact parse_seq (group_seq hP .eps [43]) (seq_nil _ _)
theorem parse_both : parseR ([40] ++ P ++ [41, 40] ++ P ++ [41, 42]) = some (.seq (.seq .eps a) (.star a)) := by
  have e : [40] ++ P ++ [41, 40] ++ P ++ [41, 42] = 40 :: (P ++ 41 :: (40 :: (P ++ 41 :: [42]))) := by simp
  rw [e]
  refine parse_seq (acc := .seq .eps a) (R := 40 :: (P ++ 41 :: [42])) ?_ ?_
  · rw [group_seq hP]; rfl
  · rw [group_seq hP]; exact seq_nil _ _
include hQ
theorem parse_bar : parseR ([40] ++ P ++ [41, 124, 40] ++ Q ++ [41]) = some (.alt (.seq .eps a) (.seq .eps b)) := by
  have e : [40] ++ P ++ [41, 124, 40] ++ Q ++ [41] = 40 :: (P ++ 41 :: (124 :: 40 :: (Q ++ 41 :: []))) := by simp
  rw [e]
  unfold parseR
  rw [alt_step, group_seq hP]
  show ((seqR 0 (.seq .eps a) (124 :: 40 :: (Q ++ 41 :: []))).bind _).bind _ = _
  rw [seq_bar]
  show (barR 0 (.seq .eps a) (124 :: 40 :: (Q ++ 41 :: []))).bind _ = _
  rw [bar_cons, if_pos rfl, group_seq hQ]
  show ((seqR 0 (.seq .eps b) []).bind _).bind _ = _
  rw [seq_nil]
  show (barR 0 (.alt (.seq .eps a) (.seq .eps b)) []).bind _ = _
  rw [bar_nil]
  rfl
end
/-- What the patterns take: the statement's last line. -/
theorem parts_law {S : List Nat} {a b : Re} {wa wb bar in_ opt star plus both : Bool} (h1 : wa = true ↔ Mt S a 0 S.length) (h2 : wb = true ↔ Mt S b 0 S.length) (h3 : bar = true ↔ Mt S (.alt (.seq .eps a) (.seq .eps b)) 0 S.length)
    (h4 : in_ = true ↔ Mt S (.seq .eps a) 0 S.length) (h5 : opt = true ↔ Mt S (.seq .eps (.opt a)) 0 S.length) (h6 : star = true ↔ Mt S (.seq .eps (.star a)) 0 S.length) (h7 : plus = true ↔ Mt S (.seq .eps (.plus a)) 0 S.length) (h8 : both = true ↔ Mt S (.seq (.seq .eps a) (.star a)) 0 S.length) :
    bar = (wa || wb) ∧ in_ = wa ∧ opt = (wa || decide (S.length = 0)) ∧ star = (plus || decide (S.length = 0)) ∧ plus = both ∧ (!wa || plus) = true := by
  rw [mt_alt, mt_epsl, mt_epsl, ← h1, ← h2] at h3
  rw [mt_epsl, ← h1] at h4
  rw [mt_epsl, mt_opt, ← h1] at h5
  rw [mt_epsl] at h6
  rw [mt_epsl, mt_plus] at h7
  rw [mt_seq] at h8
  have h9 : both = true ↔ ∃ j, Mt S a 0 j ∧ Mt S (.star a) j S.length := by
    rw [h8]
    constructor
    · rintro ⟨j, x, y⟩; exact ⟨j, mt_epsl.1 x, y⟩
    · rintro ⟨j, x, y⟩; exact ⟨j, mt_epsl.2 x, y⟩
  have hs : Mt S (.star a) 0 S.length ↔ plus = true ∨ S.length = 0 := by
    rw [h7]
    constructor
    · intro h
      generalize hr : Re.star a = r at h
      generalize hn : S.length = n at h
      cases h with
      | star0 => exact .inr rfl
      | star1 x y =>
        injection hr with hr
        subst hr
        exact .inl ⟨_, x, y⟩
      | _ => cases hr
    · rintro (⟨j, x, y⟩ | h)
      · exact .star1 x y
      · rw [h]; exact .star0 _
  refine ⟨?_, ?_, ?_, ?_, ?_, ?_⟩
  · rw [Bool.eq_iff_iff, h3, Bool.or_eq_true]
  · rw [Bool.eq_iff_iff, h4]
  · rw [Bool.eq_iff_iff, h5, Bool.or_eq_true, decide_eq_true_eq]
    exact Or.comm
  · rw [Bool.eq_iff_iff, h6, hs, Bool.or_eq_true, decide_eq_true_eq]
  · rw [Bool.eq_iff_iff, h7, h9]
  · cases hw : wa
    · rfl
    · show plus = true
      exact h7.2 ⟨S.length, h1.1 hw, .star0 _⟩
end Go.Proofs.Ytaaikjedagnjbaa
