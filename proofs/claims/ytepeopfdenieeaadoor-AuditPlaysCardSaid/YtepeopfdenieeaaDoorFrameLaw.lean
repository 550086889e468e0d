/- Plain: a frame can be read back; no two are alike, and none begins as another one. No program in sight. -/
import Derived.Test.YtepeopfdenieeaaDoorPut
namespace Go.Proofs.YtepeopfdenieeaaDoor
open Go

/-- The number that bytes are. -/
def readB (l : List UInt8) : Nat := l.foldl (fun x c => 256 * x + c.toNat) 0
theorem readB_append (l : List UInt8) (c : UInt8) : readB (l ++ [c]) = 256 * readB l + c.toNat := by simp [readB]
theorem be_succ (w x : Nat) : be (w + 1) x = be w (x / 256) ++ [UInt8.ofNat x] := by
  unfold be
  rw [List.range_succ, List.map_append]
  congr 1
  · apply List.map_congr_left
    intro i hi
    have hi := List.mem_range.1 hi
    have e : 8 * (w + 1 - 1 - i) = 8 + 8 * (w - 1 - i) := by omega
    rw [e, Nat.pow_add, ← Nat.div_div_eq_div_mul]
  · simp
theorem read_be : ∀ (w x : Nat), x < 256 ^ w → readB (be w x) = x
  | 0, x, h => by simp at h; subst h; rfl
  | w + 1, x, h => by
    have h2 : x / 256 < 256 ^ w := Nat.div_lt_of_lt_mul (by rwa [Nat.pow_succ, Nat.mul_comm] at h)
    rw [be_succ, readB_append, read_be w _ h2]
    have : (UInt8.ofNat x).toNat = x % 256 := by simp
    omega
theorem be_inj {w x y : Nat} (hx : x < 256 ^ w) (hy : y < 256 ^ w) (h : be w x = be w y) : x = y := by
  rw [← read_be w x hx, ← read_be w y hy, h]
theorem append_split {α : Type} {a b c d : List α} (h : a ++ b = c ++ d) (hl : a.length = c.length) : a = c ∧ b = d := List.append_inj h hl
theorem length_data (s : ByteArray) : s.data.toList.length = s.size := by rw [Array.length_toList]; rfl
theorem data_inj {s t : ByteArray} (h : s.data.toList = t.data.toList) : s = t := by
  cases s; cases t
  congr 1
  exact Array.toList_inj.1 h
theorem holesL_inj : ∀ (hs gs : List ByteArray), hs.length = gs.length → (∀ s ∈ hs, s.size ≤ 4096) → (∀ s ∈ gs, s.size ≤ 4096) → ∀ (t u : List UInt8), holesL hs ++ t = holesL gs ++ u → hs = gs ∧ t = u
  | [], [], _, _, _, t, u, h => ⟨rfl, by simpa [holesL] using h⟩
  | s :: hs, g :: gs, hl, h1, h2, t, u, h => by
    have e1 : holesL (s :: hs) = be 2 s.size ++ (s.data.toList ++ holesL hs) := by simp [holesL]
    have e2 : holesL (g :: gs) = be 2 g.size ++ (g.data.toList ++ holesL gs) := by simp [holesL]
    rw [e1, e2] at h
    simp only [List.append_assoc] at h
    have b1 := h1 s (by simp)
    have b2 := h2 g (by simp)
    obtain ⟨a1, a2⟩ := append_split h (by rw [length_be, length_be])
    have hsz : s.size = g.size := be_inj (w := 2) (by omega) (by omega) a1
    obtain ⟨a3, a4⟩ := append_split a2 (by rw [length_data, length_data, hsz])
    obtain ⟨a5, a6⟩ := holesL_inj hs gs (by simpa using hl) (fun x hx => h1 x (by simp [hx])) (fun x hx => h2 x (by simp [hx])) t u a4
    exact ⟨by rw [data_inj a3, a5], a6⟩
theorem length_bodyL (r : Rec) : (bodyL r).length = 14 + (holesL r.holes).length := by
  rw [bodyL, List.length_append, List.length_append, length_be, length_numsL]
theorem bodyL_small {r : Rec} (h : mayOf r = 0) : (bodyL r).length ≤ 900000 := by
  obtain ⟨_, _, _, h1, h2⟩ := may_zero h
  have := length_holesL r.holes (fun s hs => (h2 s hs).1)
  rw [length_bodyL]
  omega
theorem bodyL_inj {r q : Rec} (hr : mayOf r = 0) (hq : mayOf q = 0) (h : bodyL r = bodyL q) : r = q := by
  obtain ⟨⟨r1, r2⟩, ⟨r3, r4⟩, ⟨r5, r6⟩, r7, r8⟩ := may_zero hr
  obtain ⟨⟨q1, q2⟩, ⟨q3, q4⟩, ⟨q5, q6⟩, q7, q8⟩ := may_zero hq
  obtain ⟨d, o, l, hs⟩ := r
  obtain ⟨d', o', l', gs⟩ := q
  simp only at *
  have e : ∀ (r : Rec), bodyL r = be 4 (r.num 0).toNat ++ (be 4 (r.num 1).toNat ++ (be 4 (r.num 2).toNat ++ (be 2 r.holes.length ++ holesL r.holes))) := by
    intro r
    rw [bodyL, numsL_succ, numsL_succ, numsL_succ]
    simp [numsL]
  rw [e, e] at h
  simp only [Rec.num] at h
  obtain ⟨a1, h⟩ := append_split h (by rw [length_be, length_be])
  obtain ⟨a2, h⟩ := append_split h (by rw [length_be, length_be])
  obtain ⟨a3, h⟩ := append_split h (by rw [length_be, length_be])
  obtain ⟨a4, h⟩ := append_split h (by rw [length_be, length_be])
  have b1 := be_inj (w := 4) (by omega) (by omega) a1
  have b2 := be_inj (w := 4) (by omega) (by omega) a2
  have b3 := be_inj (w := 4) (by omega) (by omega) a3
  have b4 := be_inj (w := 2) (by omega) (by omega) a4
  obtain ⟨b5, _⟩ := holesL_inj hs gs b4 (fun s hs => (r8 s hs).1) (fun s hs => (q8 s hs).1) [] [] (by simpa using h)
  subst b5
  obtain rfl : d = d' := by omega
  obtain rfl : o = o' := by omega
  obtain rfl : l = l' := by omega
  rfl
/-- None begins as another one. -/
theorem putB_free {r q : Rec} (hr : mayOf r = 0) (hq : mayOf q = 0) (t u : List UInt8) (h : putB r ++ t = putB q ++ u) : r = q ∧ t = u := by
  have s1 := bodyL_small hr
  have s2 := bodyL_small hq
  have e : ∀ (r : Rec) (t : List UInt8), putB r ++ t = be 4 (bodyL r).length ++ (bodyL r ++ ((be 4 (crcSum (headL r))).reverse ++ t)) := by
    intro r t
    rw [putB, headL]
    simp only [List.append_assoc]
  rw [e, e] at h
  obtain ⟨a1, h⟩ := append_split h (by rw [length_be, length_be])
  have b1 := be_inj (w := 4) (by omega) (by omega) a1
  obtain ⟨a2, h⟩ := append_split h b1
  obtain ⟨_, h⟩ := append_split h (by simp [length_be])
  exact ⟨bodyL_inj hr hq a2, h⟩
theorem putB_inj {r q : Rec} (hr : mayOf r = 0) (hq : mayOf q = 0) (h : putB r = putB q) : r = q := (putB_free hr hq [] [] (by rw [h])).1
theorem putB_begins {r q : Rec} (hr : mayOf r = 0) (hq : mayOf q = 0) (hlt : (putB r).length < (putB q).length) : (putB q).take (putB r).length ≠ putB r := by
  intro h
  have h2 : putB r ++ (putB q).drop (putB r).length = putB q ++ [] := by
    rw [List.append_nil]
    conv => rhs; rw [← List.take_append_drop (putB r).length (putB q)]
    rw [h]
  obtain ⟨rfl, h3⟩ := putB_free hr hq _ _ h2
  omega
end Go.Proofs.YtepeopfdenieeaaDoor
