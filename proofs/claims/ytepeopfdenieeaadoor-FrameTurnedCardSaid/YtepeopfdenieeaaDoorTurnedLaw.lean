/- Plain: a frame of which up to four bytes side by side, behind its length, are turned is none. -/
import Derived.Test.YtepeopfdenieeaaDoorBurst
import Derived.Test.YtepeopfdenieeaaDoorTakeLaw
import Derived.Test.YtepeopfdenieeaaDoorRefPut17
namespace Go.Proofs.YtepeopfdenieeaaDoor
open Go

/-- What is turned, byte by byte: K bytes from the place a on. -/
def turnD (N a K : Nat) (bs : List UInt8) : List UInt8 := (List.range N).map fun i => if a ≤ i ∧ i < a + K then bs.getD (i - a) 0 else 0
def turnL (m : List UInt8) (a K : Nat) (bs : List UInt8) : List UInt8 := List.zipWith (· ^^^ ·) m (turnD m.length a K bs)
theorem length_turnD (N a K : Nat) (bs : List UInt8) : (turnD N a K bs).length = N := by simp [turnD]
theorem length_turnL (m : List UInt8) (a K : Nat) (bs : List UInt8) : (turnL m a K bs).length = m.length := by simp [turnL, turnD]
theorem getD_turnD (N a K : Nat) (bs : List UInt8) (i : Nat) (h : i < N) : (turnD N a K bs)[i]? = some (if a ≤ i ∧ i < a + K then bs.getD (i - a) 0 else 0) := by
  rw [turnD, List.getElem?_map, List.getElem?_range h]
  rfl
theorem getD_turnL (m : List UInt8) (a K : Nat) (bs : List UInt8) (i : Nat) (h : i < m.length) : (turnL m a K bs)[i]? = some (m[i] ^^^ (if a ≤ i ∧ i < a + K then bs.getD (i - a) 0 else 0)) := by
  rw [turnL, List.getElem?_zipWith, List.getElem?_eq_getElem h, getD_turnD _ _ _ _ _ h]
theorem turnL_zero (m : List UInt8) (a : Nat) (bs : List UInt8) : turnL m a 0 bs = m := by
  apply List.ext_getElem?
  intro i
  by_cases h : i < m.length
  · rw [getD_turnL _ _ _ _ _ h, if_neg (by omega), List.getElem?_eq_getElem h]
    simp
  · rw [List.getElem?_eq_none (by rw [length_turnL]; omega), List.getElem?_eq_none (by omega)]
theorem turnL_same (m : List UInt8) (a K : Nat) (bs : List UInt8) (h0 : ∀ j, j < K → bs.getD j 0 = 0) : turnL m a K bs = m := by
  apply List.ext_getElem?
  intro i
  by_cases h : i < m.length
  · rw [getD_turnL _ _ _ _ _ h, List.getElem?_eq_getElem h]
    congr 1
    split
    · rw [h0 _ (by omega)]; simp
    · simp
  · rw [List.getElem?_eq_none (by rw [length_turnL]; omega), List.getElem?_eq_none (by omega)]
theorem turnL_succ (m : List UInt8) (a K : Nat) (bs : List UInt8) (h : a + K < m.length) : (turnL m a K bs).set (a + K) (m[a + K] ^^^ bs.getD K 0) = turnL m a (K + 1) bs := by
  apply List.ext_getElem?
  intro i
  by_cases hi : i < m.length
  · rw [getD_turnL _ _ _ _ _ hi, List.getElem?_set, length_turnL]
    by_cases he : a + K = i
    · subst he
      rw [if_pos rfl, if_pos hi, if_pos (by omega), Nat.add_sub_cancel_left]
    · rw [if_neg he, getD_turnL _ _ _ _ _ hi]
      congr 2
      by_cases h1 : a ≤ i ∧ i < a + K
      · rw [if_pos h1, if_pos (by omega)]
      · rw [if_neg h1, if_neg (by omega)]
  · rw [List.getElem?_eq_none (by rw [List.length_set, length_turnL]; omega), List.getElem?_eq_none (by rw [length_turnL]; omega)]
theorem putB_residue (r : Rec) : crcRow 4294967295 (putB r) = 3736805603 := by
  have h := residue (headL r)
  rw [← be_rev] at h
  exact h
theorem turned_none {r : Rec} (hr : mayOf r = 0) {a K : Nat} {bs : List UInt8} (ha : 4 ≤ a) (haN : a < (putB r).length) (hK : K = min 4 ((putB r).length - a)) {j : Nat} (hj : j < K) (hb : bs.getD j 0 ≠ 0) (q : Rec) : ¬ Begins (turnL (putB r) a K bs) q := by
  intro hq
  obtain ⟨N, hN⟩ : ∃ N, N = (putB r).length := ⟨_, rfl⟩
  have hN22 : 22 ≤ N := by
    have := (Begins.parts (l := putB r) (r := r) ⟨hr, [], by simp⟩).1
    rw [length_bodyL] at this
    omega
  have p := (Begins.parts (l := putB r) (r := r) ⟨hr, [], by simp⟩)
  have p2 := hq.parts
  have e4 : (turnL (putB r) a K bs).take 4 = (putB r).take 4 := by
    apply List.ext_getElem?
    intro i
    rw [List.getElem?_take, List.getElem?_take]
    by_cases hi : i < 4
    · rw [if_pos hi, if_pos hi, getD_turnL _ _ _ _ _ (by omega), if_neg (by omega), List.getElem?_eq_getElem (by omega)]
      simp
    · rw [if_neg hi, if_neg hi]
  have hlen : (putB q).length = (putB r).length := by
    have h1 := p.1
    have h2 := p2.1
    have h3 := p2.2.2.2.1
    rw [e4, p.2.2.2.1] at h3
    omega
  obtain ⟨hq1, t, ht⟩ := hq
  have ht0 : t = [] := by
    have := congrArg List.length ht
    rw [length_turnL, List.length_append] at this
    exact List.eq_nil_of_length_eq_zero (by omega)
  subst ht0
  rw [List.append_nil] at ht
  have hx := crcRow_xor (putB r) (turnD (putB r).length a K bs) 4294967295 0 (by rw [length_turnD])
  rw [Nat.xor_zero] at hx
  have hx2 : crcRow 4294967295 (turnL (putB r) a K bs) = crcRow 4294967295 (putB r) ^^^ crcRow 0 (turnD (putB r).length a K bs) := hx
  rw [ht, putB_residue, putB_residue] at hx2
  have h0 : crcRow 0 (turnD (putB r).length a K bs) = 0 := by
    have h9 := congrArg (fun z => 3736805603 ^^^ z) hx2
    simp only [← Nat.xor_assoc, Nat.xor_self, Nat.zero_xor] at h9
    exact h9.symm
  rw [← hN] at h0 haN hK
  obtain ⟨D, hD⟩ : ∃ D, D = turnD N a K bs := ⟨_, rfl⟩
  have hDl : D.length = N := by rw [hD, length_turnD]
  have hDg : ∀ i, i < N → D[i]? = some (if a ≤ i ∧ i < a + K then bs.getD (i - a) 0 else 0) := fun i hi => by rw [hD, getD_turnD _ _ _ _ _ hi]
  rw [← hD] at h0
  obtain ⟨s, hs⟩ : ∃ s, s = min a (N - 4) := ⟨_, rfl⟩
  have hsN : s + 4 ≤ N := by omega
  have g : ∀ i (h : i < N), D[i]'(by omega) = if a ≤ i ∧ i < a + K then bs.getD (i - a) 0 else 0 := fun i h => by
    have := hDg i h
    rw [List.getElem?_eq_getElem (by omega)] at this
    exact Option.some.inj this
  have hsplit : D = D.take s ++ [D[s]'(by omega), D[s + 1]'(by omega), D[s + 2]'(by omega), D[s + 3]'(by omega)] ++ D.drop (s + 4) := by
    conv => lhs; rw [← List.take_append_drop s D]
    rw [List.append_assoc]
    congr 1
    rw [List.drop_eq_getElem_cons (by omega), List.drop_eq_getElem_cons (by omega), List.drop_eq_getElem_cons (by omega), List.drop_eq_getElem_cons (by omega)]
    rfl
  have hx0 : ∀ c ∈ D.take s, c = 0 := by
    intro c hc
    obtain ⟨i, hi⟩ := List.getElem?_of_mem hc
    rw [List.getElem?_take] at hi
    split at hi
    · rw [hDg i (by omega), if_neg (by omega)] at hi
      exact (Option.some.inj hi).symm
    · cases hi
  have hy0 : ∀ c ∈ D.drop (s + 4), c = 0 := by
    intro c hc
    obtain ⟨i, hi⟩ := List.getElem?_of_mem hc
    rw [List.getElem?_drop] at hi
    have hlt : s + 4 + i < N := by
      have := (List.getElem?_eq_some_iff.1 hi).1
      omega
    rw [hDg _ hlt, if_neg (by omega)] at hi
    exact (Option.some.inj hi).symm
  have hne : ¬ (D[s]'(by omega) = 0 ∧ D[s + 1]'(by omega) = 0 ∧ D[s + 2]'(by omega) = 0 ∧ D[s + 3]'(by omega) = 0) := by
    rintro ⟨h1, h2, h3, h4⟩
    have hv := g (a + j) (by omega)
    rw [if_pos (by omega), Nat.add_sub_cancel_left] at hv
    apply hb
    rw [← hv]
    rcases (show a + j = s ∨ a + j = s + 1 ∨ a + j = s + 2 ∨ a + j = s + 3 from by omega) with e | e | e | e
    · simp only [e]; exact h1
    · simp only [e]; exact h2
    · simp only [e]; exact h3
    · simp only [e]; exact h4
  have := burst (D.take s) (D.drop (s + 4)) hx0 hy0 _ _ _ _ hne
  rw [← hsplit] at this
  exact this h0
end Go.Proofs.YtepeopfdenieeaaDoor
