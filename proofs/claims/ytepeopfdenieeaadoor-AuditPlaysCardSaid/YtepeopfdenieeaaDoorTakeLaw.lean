/- Plain: what can be read of bytes as holes, and as a record. No program in sight. -/
import Derived.Test.YtepeopfdenieeaaDoorFrameLaw
namespace Go.Proofs.YtepeopfdenieeaaDoor
open Go

def textOf (l : List UInt8) : ByteArray := ⟨l.toArray⟩
/-- So many holes ahead of bytes, and what is left. -/
def holesGo : Nat → List UInt8 → Option (List ByteArray × List UInt8)
  | 0, b => some ([], b)
  | m + 1, b => if b.length < 2 ∨ b.length - 2 < readB (b.take 2) then none
    else (holesGo m (b.drop (2 + readB (b.take 2)))).map fun x => (textOf ((b.drop 2).take (readB (b.take 2))) :: x.1, x.2)
theorem textOf_data (s : ByteArray) : textOf s.data.toList = s := by
  cases s
  simp [textOf]
/-- What was laid down is read. -/
theorem holesGo_holesL : ∀ (hs : List ByteArray) (t : List UInt8), (∀ s ∈ hs, s.size ≤ 4096) → holesGo hs.length (holesL hs ++ t) = some (hs, t)
  | [], t, _ => by simp [holesGo, holesL]
  | s :: hs, t, h => by
    have b1 := h s (by simp)
    have e1 : holesL (s :: hs) ++ t = be 2 s.size ++ (s.data.toList ++ (holesL hs ++ t)) := by simp [holesL]
    rw [e1]
    have t2 : (be 2 s.size ++ (s.data.toList ++ (holesL hs ++ t))).take 2 = be 2 s.size := by
      rw [List.take_append_of_le_length (by rw [length_be]; omega), List.take_of_length_le (by rw [length_be]; omega)]
    have r2 : readB (be 2 s.size) = s.size := read_be 2 _ (by omega)
    have d2 : (be 2 s.size ++ (s.data.toList ++ (holesL hs ++ t))).drop 2 = s.data.toList ++ (holesL hs ++ t) := by
      have := List.drop_left (l₁ := be 2 s.size) (l₂ := s.data.toList ++ (holesL hs ++ t))
      rwa [length_be] at this
    have dn : (be 2 s.size ++ (s.data.toList ++ (holesL hs ++ t))).drop (2 + s.size) = holesL hs ++ t := by
      rw [← List.drop_drop, d2]
      have := List.drop_left (l₁ := s.data.toList) (l₂ := holesL hs ++ t)
      rwa [length_data] at this
    have tn : (s.data.toList ++ (holesL hs ++ t)).take s.size = s.data.toList := by
      have := List.take_left (l₁ := s.data.toList) (l₂ := holesL hs ++ t)
      rwa [length_data] at this
    rw [List.length_cons, holesGo, t2, r2, if_neg, d2, dn, tn, holesGo_holesL hs t (fun x hx => h x (by simp [hx]))]
    · simp [textOf_data]
    · rw [List.length_append, List.length_append, length_be, length_data]
      omega
/-- A record that bytes begin with: there is at most one. -/
def Begins (l : List UInt8) (r : Rec) : Prop := mayOf r = 0 ∧ ∃ t, l = putB r ++ t
theorem Begins.one {l : List UInt8} {r q : Rec} (h : Begins l r) (k : Begins l q) : r = q := by
  obtain ⟨h1, t, h2⟩ := h
  obtain ⟨k1, u, k2⟩ := k
  exact (putB_free h1 k1 t u (by rw [← h2, ← k2])).1
/-- What the first bytes, and what stands behind them, must be. -/
theorem Begins.parts {l : List UInt8} {r : Rec} (h : Begins l r) :
    (putB r).length = (bodyL r).length + 8 ∧ (putB r).length ≤ l.length ∧ l.take (putB r).length = putB r ∧ readB (l.take 4) = (bodyL r).length ∧ (l.drop 4).take (bodyL r).length = bodyL r := by
  obtain ⟨h1, t, h2⟩ := h
  have hs := bodyL_small h1
  have e : ∀ u, putB r ++ u = be 4 (bodyL r).length ++ (bodyL r ++ ((be 4 (crcSum (headL r))).reverse ++ u)) := by
    intro u
    rw [putB, headL]
    simp only [List.append_assoc]
  have hl : (putB r).length = (bodyL r).length + 8 := by
    rw [putB, headL]
    simp only [List.length_append, List.length_reverse, length_be]
    omega
  subst h2
  refine ⟨hl, by simp, List.take_left, ?_, ?_⟩
  · rw [e, List.take_append_of_le_length (by rw [length_be]; omega), List.take_of_length_le (by rw [length_be]; omega)]
    exact read_be 4 _ (by omega)
  · rw [e]
    have := List.drop_left (l₁ := be 4 (bodyL r).length) (l₂ := bodyL r ++ ((be 4 (crcSum (headL r))).reverse ++ t))
    rw [length_be] at this
    rw [this]
    exact List.take_left
/-- What a body must hold. -/
theorem bodyL_parts {r : Rec} (h : mayOf r = 0) : (readB ((bodyL r).take 4) : Int) = r.doc ∧ (readB (((bodyL r).drop 4).take 4) : Int) = r.out ∧ (readB (((bodyL r).drop 8).take 4) : Int) = r.len ∧
    readB (((bodyL r).drop 12).take 2) = r.holes.length ∧ (bodyL r).drop 14 = holesL r.holes := by
  obtain ⟨⟨r1, r2⟩, ⟨r3, r4⟩, ⟨r5, r6⟩, r7, r8⟩ := may_zero h
  have e : bodyL r = be 4 r.doc.toNat ++ (be 4 r.out.toNat ++ (be 4 r.len.toNat ++ (be 2 r.holes.length ++ holesL r.holes))) := by
    rw [bodyL, numsL_succ, numsL_succ, numsL_succ]
    simp [numsL, Rec.num]
  have d4 : ∀ (x : Nat) (u : List UInt8), (be 4 x ++ u).drop 4 = u := fun x u => by
    have := List.drop_left (l₁ := be 4 x) (l₂ := u)
    rwa [length_be] at this
  have d2 : ∀ (x : Nat) (u : List UInt8), (be 2 x ++ u).drop 2 = u := fun x u => by
    have := List.drop_left (l₁ := be 2 x) (l₂ := u)
    rwa [length_be] at this
  have t4 : ∀ (x : Nat) (u : List UInt8), (be 4 x ++ u).take 4 = be 4 x := fun x u => by
    rw [List.take_append_of_le_length (by rw [length_be]; omega), List.take_of_length_le (by rw [length_be]; omega)]
  have t2 : ∀ (x : Nat) (u : List UInt8), (be 2 x ++ u).take 2 = be 2 x := fun x u => by
    rw [List.take_append_of_le_length (by rw [length_be]; omega), List.take_of_length_le (by rw [length_be]; omega)]
  have a8 : ∀ (l : List UInt8), l.drop 8 = (l.drop 4).drop 4 := fun l => by rw [List.drop_drop]
  have a12 : ∀ (l : List UInt8), l.drop 12 = ((l.drop 4).drop 4).drop 4 := fun l => by rw [List.drop_drop, List.drop_drop]
  have a14 : ∀ (l : List UInt8), l.drop 14 = (((l.drop 4).drop 4).drop 4).drop 2 := fun l => by rw [List.drop_drop, List.drop_drop, List.drop_drop]
  rw [a8, a12, a14, e]
  simp only [d4, t4, d2, t2]
  rw [read_be 4 _ (by omega), read_be 4 _ (by omega), read_be 4 _ (by omega), read_be 2 _ (by omega)]
  exact ⟨by omega, by omega, by omega, rfl, trivial⟩
/-- What the parse of bytes that a record begins comes to. -/
theorem take_law {l b : List UInt8} {q many : Nat} {gs : List ByteArray} {bo : Bool} {R : Rec} (hq : q = readB (l.take 4)) (hb : b = (l.drop 4).take q) (hm : many = readB ((b.drop 12).take 2))
    (hbo : bo = true ↔ ∃ hs, holesGo many (b.drop 14) = some (hs, [])) (hgs : ∀ hs r, holesGo many (b.drop 14) = some (hs, r) → gs = hs)
    (hR : R = ⟨(readB (b.take 4) : Nat), (readB ((b.drop 4).take 4) : Nat), (readB ((b.drop 8).take 4) : Nat), gs⟩) {r : Rec} (h : Begins l r) :
    bo = true ∧ R = r ∧ mayOf R = 0 ∧ putL R = l.take (q + 8) := by
  obtain ⟨p1, p2, p3, p4, p5⟩ := h.parts
  have hqb : q = (bodyL r).length := by rw [hq, p4]
  have hbb : b = bodyL r := by rw [hb, hqb, p5]
  obtain ⟨a1, a2, a3, a4, a5⟩ := bodyL_parts h.1
  rw [← hbb] at a1 a2 a3 a4 a5
  have hh := holesGo_holesL r.holes [] (fun s hs => ((may_zero h.1).2.2.2.2 s hs).1)
  rw [List.append_nil, ← a5, ← a4, ← hm] at hh
  have hg : gs = r.holes := hgs _ _ hh
  have hRr : R = r := by
    rw [hR, hg]
    obtain ⟨d, o, z, hs⟩ := r
    simp only at a1 a2 a3
    rw [a1, a2, a3]
  refine ⟨hbo.2 ⟨_, hh⟩, hRr, by rw [hRr]; exact h.1, ?_⟩
  rw [hRr, putL, if_pos h.1, hqb, ← p1, p3]
end Go.Proofs.YtepeopfdenieeaaDoor
