/- Plain: with room all that may be is released, record by record. -/
import Derived.Test.YtepeopfdenieeaaDoorFew19
import Derived.Test.YtepeopfdenieeaaDoorRelease
import Derived.Test.YtepeopfdenieeaaDoorProved
namespace Go.Proofs.YtepeopfdenieeaaDoor
open Go

theorem span_keep3 {w w' : World} {a al ao : Nat} {s : AK} (ha : AuditAt w a al ao s) {A : Option Addr} {ys : List UInt8} (hs : Span w A (u8s ys)) (k : Kp [a, al, ao] w w') : Span w' A (u8s ys) := by
  rcases Nat.eq_zero_or_pos ys.length with h | h
  · obtain rfl : ys = [] := List.eq_nil_of_length_eq_zero h
    exact Span.nil _ _
  · refine hs.keep k (fun ad he hm => ?_)
    have h1 := span_not ha.c (audit_no al ao _) hs h ad he
    obtain ⟨cs, hcs, hno⟩ := sink_no ha.l
    have h2 := span_not hcs hno hs h ad he
    obtain ⟨cs, hcs, hno⟩ := sink_no ha.o
    have h3 := span_not hcs hno hs h ad he
    simp at hm
    omega
theorem length_holesL60 : ∀ (hs : List ByteArray), (∀ s ∈ hs, s.size ≤ 60) → (holesL hs).length ≤ 62 * hs.length
  | [], _ => by simp [holesL]
  | s :: hs, h => by
    have h1 := length_holesL60 hs (fun t ht => h t (by simp [ht]))
    have h2 := h s (by simp)
    have h3 : (holesL (s :: hs)).length = 2 + s.size + (holesL hs).length := by
      show ((be 2 s.size ++ s.data.toList) ++ holesL hs).length = _
      rw [List.length_append, List.length_append, length_be, Array.length_toList]
      rfl
    rw [h3, List.length_cons]
    omega
theorem fewP_put (p : Pc) : (putB (fewP p).r).length ≤ 1262 := by
  have h1 : (putB (fewP p).r).length = 22 + (holesL (fewP p).r.holes).length := by
    rw [putB, headL, bodyL, List.length_append, List.length_append, List.length_append, List.length_append, List.length_reverse, length_be, length_be, length_be, length_numsL]
    omega
  have h2 := length_holesL60 (fewP p).r.holes (size_fewPH _ _)
  have h3 : (fewP p).r.holes.length ≤ 20 := by
    show ((p.r.holes.take (min p.r.holes.length 20)).map cut60).length ≤ 20
    rw [List.length_map, List.length_take]; omega
  omega
/-- The state of an audit with room behind k pieces: the records qs are noted, the bytes ws are out. -/
structure RightInv (k : Nat) (s : AK) (qs : List Rec) (ws : List UInt8) : Prop where
  st : s = ⟨⟨putAll qs, 1048576, -1, false⟩, ⟨ws, 1048576, -1, false⟩, 0⟩
  may : ∀ r ∈ qs, mayOf r = 0
  l1 : (putAll qs).length ≤ k * 1300
  l2 : ws.length ≤ k * 100
  n : qs.length ≤ k
  sum : sumLen qs = ws.length
theorem RightInv.start : RightInv 0 ⟨SK.make 1048576 (-1), SK.make 1048576 (-1), 0⟩ [] [] :=
  ⟨by simp [SK.make, putAll]; omega, by simp, by simp [putAll], by simp, by simp, rfl⟩
theorem RightInv.yes {k : Nat} {s : AK} {qs : List Rec} {ws : List UInt8} (h : RightInv k s qs ws) (hk : k < 40) {f : Pc} (h1 : mayOf f.r = 0) (h2 : f.r.len = f.b.length) (h3 : (putB f.r).length ≤ 1262) (h4 : f.b.length ≤ 100) :
    (s.release f.r f.b).2 = 0 ∧ RightInv (k + 1) (s.release f.r f.b).1 (qs ++ [f.r]) (ws ++ f.b) := by
  obtain ⟨rfl, g1, g2, g3, g4, g5⟩ := h
  have hw1 : (SK.mk (putAll qs) 1048576 (-1) false).write (putB f.r) = (⟨putAll qs ++ putB f.r, 1048576, -1, false⟩, ((putB f.r).length : Int), 0) := by
    unfold SK.write
    rw [if_neg (by simp), if_neg (by simp), if_neg (by simp only; omega)]
    simp
  have hw2 : (SK.mk ws 1048576 (-1) false).write f.b = (⟨ws ++ f.b, 1048576, -1, false⟩, (f.b.length : Int), 0) := by
    unfold SK.write
    rw [if_neg (by simp), if_neg (by simp), if_neg (by simp only; omega)]
    simp
  have hr : (AK.mk ⟨putAll qs, 1048576, -1, false⟩ ⟨ws, 1048576, -1, false⟩ 0).release f.r f.b = (⟨⟨putAll qs ++ putB f.r, 1048576, -1, false⟩, ⟨ws ++ f.b, 1048576, -1, false⟩, 0⟩, 0) := by
    unfold AK.release
    rw [if_neg (by simp), if_neg (by rw [h1]; simp), if_neg (by rw [h2]; simp)]
    simp only [hw1, hw2]
    simp
  rw [hr]
  refine ⟨rfl, by rw [putAll_snoc], ?_, ?_, ?_, ?_, ?_⟩
  · intro r hr
    rcases List.mem_append.1 hr with hr | hr
    · exact g1 r hr
    · rw [List.mem_singleton.1 hr]; exact h1
  · rw [putAll_snoc, List.length_append, Nat.add_mul, Nat.one_mul]; omega
  · rw [List.length_append, Nat.add_mul, Nat.one_mul]; omega
  · rw [List.length_append]; simp only [List.length_cons, List.length_nil]; omega
  · rw [sumLen_snoc, g5, h2, List.length_append]; omega
theorem RightInv.no {k : Nat} {s : AK} {qs : List Rec} {ws : List UInt8} (h : RightInv k s qs ws) {f : Pc} (h1 : ¬ (mayOf f.r = 0 ∧ f.r.len = f.b.length)) :
    (s.release f.r f.b) = (s, if mayOf f.r ≠ 0 then mayOf f.r else 1) ∧ RightInv (k + 1) s qs ws := by
  obtain ⟨rfl, g1, g2, g3, g4, g5⟩ := h
  refine ⟨?_, rfl, g1, Nat.le_trans g2 (Nat.mul_le_mul_right _ (by omega)), Nat.le_trans g3 (Nat.mul_le_mul_right _ (by omega)), by omega, g5⟩
  unfold AK.release
  by_cases hm : mayOf f.r = 0
  · rw [if_neg (by simp), if_neg (by rw [hm]; simp), if_pos (fun e => h1 ⟨hm, e⟩), if_neg (by rw [hm]; simp)]
  · rw [if_neg (by simp), if_pos hm, if_pos hm]
theorem rows_whole {qs : List Rec} (h : ∀ r ∈ qs, mayOf r = 0) : Rows (putAll qs) qs [] :=
  ⟨h, by simp, fun r hb => by
    obtain ⟨_, t, ht⟩ := hb
    have h1 := congrArg List.length ht
    have h2 := putB_len r
    rw [List.length_append] at h1
    simp at h1
    omega⟩
end Go.Proofs.YtepeopfdenieeaaDoor
