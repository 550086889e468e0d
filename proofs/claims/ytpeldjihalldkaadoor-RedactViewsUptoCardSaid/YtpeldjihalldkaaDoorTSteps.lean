/- Places: their steps in memory; the row of places that a walk adds to. -/
import Derived.Test.YtpeldjihalldkaaDoorRF
namespace Go.Proofs.YtpeldjihalldkaaDoor
open Go Go.RowKit Go.Lib

def stC (s : Stp) : List Value := [.int .i64 (s.1 : Int), .string ⟨s.2.1.toArray⟩, .int .i64 (s.2.2 : Int)]
def stCs : List Stp → List Value
  | [] => []
  | s :: r => stC s ++ stCs r
theorem stCs_len : ∀ p : List Stp, (stCs p).length = p.length * 3
  | [] => rfl
  | s :: r => by
    unfold stCs
    rw [List.length_append, stCs_len r, List.length_cons]
    show 3 + _ = _
    omega
theorem stCs_app : ∀ (p q : List Stp), stCs (p ++ q) = stCs p ++ stCs q
  | [], q => rfl
  | s :: r, q => by
    show stC s ++ stCs (r ++ q) = (stC s ++ stCs r) ++ stCs q
    rw [stCs_app r q, List.append_assoc]
theorem stCs_snoc (p : List Stp) (s : Stp) : stCs (p ++ [s]) = stCs p ++ stC s := by
  rw [stCs_app]
  show _ ++ (stC s ++ []) = _
  rw [List.append_nil]
theorem stCs_one : ∀ (p : List Stp), ∀ u ∈ stCs p, u.oneCell' = true
  | [], u, h => by cases h
  | s :: r, u, h => by
    rcases List.mem_append.1 (show u ∈ stC s ++ stCs r from h) with h | h
    · simp only [stC, List.mem_cons, List.not_mem_nil, or_false] at h
      rcases h with rfl | rfl | rfl <;> rfl
    · exact stCs_one r u h
theorem stCs_at : ∀ (p : List Stp) (i : Nat) (s : Stp), p[i]? = some s → ∀ (j : Nat) u, (stC s)[j]? = some u → (stCs p)[i * 3 + j]? = some u
  | [], _, _, h, _, _, _ => by cases h
  | t :: r, 0, s, h, j, u, hu => by
    injection h with h
    subst h
    have hj : j < (stC t).length := (List.getElem?_eq_some_iff.1 hu).1
    show (stC t ++ stCs r)[0 * 3 + j]? = _
    rw [Nat.zero_mul, Nat.zero_add, List.getElem?_append_left hj]
    exact hu
  | t :: r, i + 1, s, h, j, u, hu => by
    have e : (stC t).length = 3 := rfl
    show (stC t ++ stCs r)[(i + 1) * 3 + j]? = _
    rw [List.getElem?_append_right (by omega), show (i + 1) * 3 + j - (stC t).length = i * 3 + j by omega]
    exact stCs_at r i s h j u hu
/-- A slice of steps in memory: read alone; its block is as T says. -/
structure StepsAt (w : World) (T : Nat → Prop) (v : Value) (p : List Stp) : Prop where
  ex : ∃ A c, v = .slice A p.length c ∧ p.length ≤ c ∧ c ≤ 9223372036854775807 ∧ Span w A (stCs p) ∧ ∀ ad, A = some ad → ad = ⟨ad.block, 0, none⟩ ∧ T ad.block ∧ ad.block < w.heap.size
theorem StepsAt.nil (w : World) (T : Nat → Prop) : StepsAt w T (.slice none 0 0) [] := ⟨none, 0, rfl, Nat.le_refl _, by decide, Span.nil _ _, fun ad h => by cases h⟩
theorem StepsAt.keep {w w' : World} {T : Nat → Prop} {S : List Nat} (k : Kp S w w') (hS : ∀ x ∈ S, ¬ T x) {v : Value} {p : List Stp} (h : StepsAt w T v p) : StepsAt w' T v p := by
  obtain ⟨A, c, rfl, h1, h2, h3, h4⟩ := h.ex
  exact ⟨A, c, rfl, h1, h2, h3.keep k (fun ad e hm => hS _ hm (h4 ad e).2.1), fun ad e => ⟨(h4 ad e).1, (h4 ad e).2.1, Nat.lt_of_lt_of_le (h4 ad e).2.2 k.size⟩⟩
theorem StepsAt.kept {w w' : World} {T : Nat → Prop} (k : Kp [] w w') {v : Value} {p : List Stp} (h : StepsAt w T v p) : StepsAt w' T v p := h.keep k (by simp)
theorem StepsAt.mono {w : World} {T U : Nat → Prop} (hTU : ∀ x, x < w.heap.size → T x → U x) {v : Value} {p : List Stp} (h : StepsAt w T v p) : StepsAt w U v p := by
  obtain ⟨A, c, rfl, h1, h2, h3, h4⟩ := h.ex
  exact ⟨A, c, rfl, h1, h2, h3, fun ad e => ⟨(h4 ad e).1, hTU _ (h4 ad e).2.2 (h4 ad e).2.1, (h4 ad e).2.2⟩⟩
theorem StepsAt.of_own {w : World} {T : Nat → Prop} {v : Value} {p : List Stp} (h : OwnN w 42 3 v p.length (stCs p)) (hT : ∀ g, v.ownBlock = some g → T g) : StepsAt w T v p := by
  have hlt := h.lt
  obtain ⟨A, c, rfl, h1, h2, h3, h4⟩ := h.shape
  exact ⟨A, c, rfl, h2, h3, h1, fun ad e => ⟨(h4 ad e).1, hT _ (h4 ad e).2, hlt _ (h4 ad e).2⟩⟩
/-- The row of places so far: the cell b holds it, its own block is G. -/
structure Led (w : World) (b : Nat) (G : Option Nat) (l : List (List Stp)) : Prop where
  ex : ∃ v vs, Cells w b 34 [v] ∧ v.ownBlock = G ∧ G ≠ some b ∧ Own w 40 v l.length vs ∧ ∀ (i : Nat) s p, vs[i]? = some s → l[i]? = some p → StepsAt w (fun x => x ≠ b ∧ some x ≠ G) s p
theorem Led.kept {w w' : World} {b : Nat} {G : Option Nat} {l : List (List Stp)} (h : Led w b G l) (k : Kp [] w w') : Led w' b G l := by
  obtain ⟨v, vs, h1, h2, h3, h4, h5⟩ := h.ex
  exact ⟨v, vs, h1.keep k (by simp), h2, h3, h4.kept k, fun i s p hs hp => (h5 i s p hs hp).kept k⟩
theorem stepsInfo : (Tryd.prog.info? 42).map (fun i => (i.zero, i.size, i.bytes)) = some (some (.agg (stC (0, [], 0)).toArray), 3, 32) := by kernel_rfl
theorem placesInfo : (Tryd.prog.info? 40).map (fun i => (i.zero, i.size, i.bytes)) = some (some (.slice none 0 0), 1, 24) := by kernel_rfl
end Go.Proofs.YtpeldjihalldkaaDoor
