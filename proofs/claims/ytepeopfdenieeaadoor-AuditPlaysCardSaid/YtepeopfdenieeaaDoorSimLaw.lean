/- Plain: the sink and the document's, the audit and the document's, side by side; and a region's condition that grows. -/
import Derived.Test.YtepeopfdenieeaaDoorRefRelease
namespace Go.Proofs.YtepeopfdenieeaaDoor
open Go

/-- The program's sink s, the document's t, that crash behind so many bytes. -/
structure Sim (crash : Int) (s : SK) (t : RK) : Prop where
  hx : t.xs = s.xs
  hr : t.room = s.room
  hd : t.dead = s.dead
  hc : t.crash = crash
  hl : s.dead = false → (crash < 0 ∧ s.left < 0) ∨ (0 ≤ crash ∧ (s.xs.length : Int) ≤ crash ∧ s.left = crash - s.xs.length)
theorem Sim.make (room crash : Int) : Sim crash (SK.make room crash) ⟨[], min (max room 0) 1048576, crash, false⟩ :=
  ⟨rfl, rfl, rfl, rfl, fun _ => by simp only [SK.make, List.length_nil]; omega⟩
theorem Sim.write {crash : Int} {s : SK} {t : RK} (h : Sim crash s t) (ys : List UInt8) : (t.write ys).2 = (s.write ys).2 ∧ Sim crash (s.write ys).1 (t.write ys).1 := by
  obtain ⟨sx, sr, sl, sd⟩ := s
  obtain ⟨tx, tr, tc, td⟩ := t
  obtain ⟨h1, h2, h3, h4, h5⟩ := h
  simp only at h1 h2 h3 h4 h5
  subst h1 h2 h3 h4
  cases td
  · have h6 := h5 rfl
    unfold SK.write RK.write
    simp only [Bool.false_eq_true, if_false]
    by_cases hc : 0 ≤ sl ∧ sl < ys.length
    · have hc2 : 0 ≤ tc ∧ tc < (tx.length : Int) + ys.length := by omega
      rw [if_pos hc, if_pos hc2]
      have e : (tc - tx.length).toNat = sl.toNat := by omega
      refine ⟨?_, ⟨by simp only [e], rfl, rfl, rfl, by simp⟩⟩
      simp only [Prod.mk.injEq, and_true]
      omega
    · have hc2 : ¬ (0 ≤ tc ∧ tc < (tx.length : Int) + ys.length) := by omega
      rw [if_neg hc, if_neg hc2]
      by_cases hr : tr < (tx.length : Int) + ys.length
      · rw [if_pos hr, if_pos hr]
        exact ⟨rfl, ⟨rfl, rfl, rfl, rfl, h5⟩⟩
      · rw [if_neg hr, if_neg hr]
        refine ⟨rfl, ⟨rfl, rfl, rfl, rfl, fun _ => ?_⟩⟩
        simp only [List.length_append]
        split <;> omega
  · unfold SK.write RK.write
    simp only [if_true]
    exact ⟨trivial, ⟨rfl, rfl, rfl, rfl, h5⟩⟩
structure ASim (lc oc : Int) (s : AK) (t : RAK) : Prop where
  hl : Sim lc s.log t.log
  ho : Sim oc s.out t.out
  hc : t.code = s.code
theorem ASim.release {lc oc : Int} {s : AK} {t : RAK} (h : ASim lc oc s t) (r : Rec) (ys : List UInt8) : (t.release r ys).2 = (s.release r ys).2 ∧ ASim lc oc (s.release r ys).1 (t.release r ys).1 := by
  obtain ⟨h1, h2, h3⟩ := h
  obtain ⟨a1, a2⟩ := h1.write (putB r)
  obtain ⟨b1, b2⟩ := h2.write ys
  unfold AK.release RAK.release
  rw [h3, a1, b1]
  by_cases c0 : s.code ≠ 0
  · rw [if_pos c0, if_pos c0]; exact ⟨rfl, h1, h2, h3⟩
  · rw [if_neg c0, if_neg c0]
    by_cases c1 : mayOf r ≠ 0
    · rw [if_pos c1, if_pos c1]; exact ⟨rfl, h1, h2, h3⟩
    · rw [if_neg c1, if_neg c1]
      by_cases c2 : r.len ≠ ys.length
      · rw [if_pos c2, if_pos c2]; exact ⟨rfl, h1, h2, h3⟩
      · rw [if_neg c2, if_neg c2]
        by_cases c3 : (s.log.write (putB r)).2.2 ≠ 0
        · rw [if_pos c3, if_pos c3]; exact ⟨rfl, a2, h2, rfl⟩
        · rw [if_neg c3, if_neg c3]; exact ⟨rfl, a2, b2, rfl⟩
theorem RAK.make_ok (lr lc or oc : Int) : (RAK.mk ⟨[], min (max lr 0) 1048576, lc, false⟩ ⟨[], min (max or 0) 1048576, oc, false⟩ 0).Ok :=
  ⟨⟨fun _ => by simp only [List.length_nil]; omega, by simp only; omega, by simp, by simp⟩, ⟨fun _ => by simp only [List.length_nil]; omega, by simp only; omega, by simp, by simp⟩⟩
/-- From here on more is held. -/
theorem wpAnyH_more {P : Program} {ops : Array Oper} {Q : Exit → Act → World → Prop} {md : Region.Mode} {S S2 : World → Prop} (h : ∀ w, S2 w → S w) :
    ∀ (fuel : Nat) (listed : Array Bool) (a : Act) (w : World), wpAnyH P md ops Q S2 fuel listed a w → wpAnyH P md ops Q S fuel listed a w
  | 0, _, _, _, k => k
  | fuel + 1, _, _, _, k => ⟨k.1, fun i hi => wpOp_mono (fun a' w' h' => ⟨h w' h'.1, wpAnyH_more h fuel _ a' w' h'.2⟩) (k.2 i hi)⟩
end Go.Proofs.YtepeopfdenieeaaDoor
