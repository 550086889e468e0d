/- The document's answer for layer 1: digits of both with the same scale. -/
import Derived.Test.YtampgimmodomoaaDoorDRPlus
namespace Go.Proofs.YtampgimmodomoaaDoor
open Go Go.RowKit

/-- Digits with noughts behind, and ahead, so that they are n. -/
def alX (D : List UInt8) (s S n : Nat) : List UInt8 := List.replicate (n - (D.length + (S - s))) 48 ++ (D ++ List.replicate (S - s) 48)
theorem alX_len (D : List UInt8) (s S n : Nat) (h : D.length + (S - s) ≤ n) : (alX D s S n).length = n := by
  unfold alX
  simp only [List.length_append, List.length_replicate]
  omega
theorem alX_digs {D : List UInt8} (hD : Digs D) (s S n : Nat) : Digs (alX D s S n) := (Digs.zeros _).append (hD.append (Digs.zeros _))
theorem alX_val (D : List UInt8) (s S n : Nat) : val (alX D s S n) = val D * 10 ^ (S - s) := by
  unfold alX
  rw [val_append, val_zeros, Nat.zero_mul, Nat.zero_add, val_append, val_zeros, List.length_replicate, Nat.add_zero]
def alN (D E : List UInt8) (s t : Nat) : Nat := max (D.length + (max s t - s)) (E.length + (max s t - t))
set_option maxRecDepth 100000 in
set_option maxHeartbeats 3200000 in
theorem ralign_any (w : World) (n1 n2 : Bool) (D1 D2 : List UInt8) (l1 : D1.length ≤ 10000) (l2 : D2.length ≤ 10000) (s1 s2 : Nat) (b1 : s1 ≤ 10000) (b2 : s2 ≤ 10000) :
    Calls Tryd.prog 61 #[.agg #[.bool n1, .string ⟨D1.toArray⟩, .int .i64 (s1 : Int)], .agg #[.bool n2, .string ⟨D2.toArray⟩, .int .i64 (s2 : Int)]] w fun e w' =>
      e = .returned (.tuple #[.string ⟨(alX D1 s1 (max s1 s2) (alN D1 D2 s1 s2)).toArray⟩, .string ⟨(alX D2 s2 (max s1 s2) (alN D1 D2 s1 s2)).toArray⟩, .int .i64 ((max s1 s2 : Nat) : Int)]) ∧ Kp [] w w' := by
  obtain ⟨R1, hR1⟩ : ∃ R, R = alX D1 s1 (max s1 s2) (alN D1 D2 s1 s2) := ⟨_, rfl⟩
  obtain ⟨R2, hR2⟩ : ∃ R, R = alX D2 s2 (max s1 s2) (alN D1 D2 s1 s2) := ⟨_, rfl⟩
  rw [← hR1, ← hR2]
  unfold alX alN at hR1 hR2
  obtain ⟨S, hS⟩ : ∃ S, S = max s1 s2 := ⟨_, rfl⟩
  rw [← hS] at hR1 hR2 ⊢
  have m1 : max (s1 : Int) (s2 : Int) = (S : Int) := by omega
  obtain ⟨z1, hz1⟩ : ∃ z, z = S - s1 := ⟨_, rfl⟩
  obtain ⟨z2, hz2⟩ : ∃ z, z = S - s2 := ⟨_, rfl⟩
  rw [← hz1, ← hz2] at hR1 hR2
  have u1 : IntKind.i64.wrap ((S : Int) - (s1 : Int)) = (z1 : Int) := by rw [show (S : Int) - s1 = z1 by omega]; exact IntWalk.i64_in _ (by omega)
  have u2 : IntKind.i64.wrap ((S : Int) - (s2 : Int)) = (z2 : Int) := by rw [show (S : Int) - s2 = z2 by omega]; exact IntWalk.i64_in _ (by omega)
  obtain ⟨k1, hk1⟩ : ∃ k, k = D1.length + z1 := ⟨_, rfl⟩
  obtain ⟨k2, hk2⟩ : ∃ k, k = D2.length + z2 := ⟨_, rfl⟩
  rw [← hk1, ← hk2] at hR1 hR2
  obtain ⟨n, hn⟩ : ∃ n, n = max k1 k2 := ⟨_, rfl⟩
  rw [← hn] at hR1 hR2
  have m2 : max (k1 : Int) (k2 : Int) = (n : Int) := by omega
  obtain ⟨p1, hp1⟩ : ∃ p, p = n - k1 := ⟨_, rfl⟩
  obtain ⟨p2, hp2⟩ : ∃ p, p = n - k2 := ⟨_, rfl⟩
  rw [← hp1] at hR1
  rw [← hp2] at hR2
  have d1 : (n : Int) - (k1 : Int) = (p1 : Int) := by omega
  have d2 : (n : Int) - (k2 : Int) = (p2 : Int) := by omega
  have bk1 : k1 ≤ 20000 := by omega
  have bk2 : k2 ≤ 20000 := by omega
  have bn : n ≤ 20000 := by omega
  have bp1 : p1 ≤ 20000 := by omega
  have bp2 : p2 ≤ 20000 := by omega
  have q1 := fun W => rzeros_any W z1 (by omega)
  have q2 := fun W => rzeros_any W z2 (by omega)
  have q3 := fun W => rzeros_any W p1 (by omega)
  have q4 := fun W => rzeros_any W p2 (by omega)
  obtain ⟨Z1, hZ1⟩ : ∃ Z : List UInt8, Z = List.replicate z1 48 := ⟨_, rfl⟩
  obtain ⟨Z2, hZ2⟩ : ∃ Z : List UInt8, Z = List.replicate z2 48 := ⟨_, rfl⟩
  obtain ⟨P1, hP1⟩ : ∃ Z : List UInt8, Z = List.replicate p1 48 := ⟨_, rfl⟩
  obtain ⟨P2, hP2⟩ : ∃ Z : List UInt8, Z = List.replicate p2 48 := ⟨_, rfl⟩
  rw [← hZ1, ← hP1] at hR1
  rw [← hZ2, ← hP2] at hR2
  simp only [← hZ1] at q1
  simp only [← hZ2] at q2
  simp only [← hP1] at q3
  simp only [← hP2] at q4
  have lZ1 : Z1.length = z1 := by rw [hZ1, List.length_replicate]
  have lZ2 : Z2.length = z2 := by rw [hZ2, List.length_replicate]
  have lP1 : P1.length = p1 := by rw [hP1, List.length_replicate]
  have lP2 : P2.length = p2 := by rw [hP2, List.length_replicate]
  obtain ⟨X1, hX1⟩ : ∃ X, X = D1 ++ Z1 := ⟨_, rfl⟩
  obtain ⟨X2, hX2⟩ : ∃ X, X = D2 ++ Z2 := ⟨_, rfl⟩
  rw [← hX1] at hR1
  rw [← hX2] at hR2
  have lX1 : X1.length = k1 := by rw [hX1, List.length_append]; omega
  have lX2 : X2.length = k2 := by rw [hX2, List.length_append]; omega
  have a1 := fun W => run_add_text (P := Tryd.prog) D1 Z1 X1 hX1 (by omega) W
  have a2 := fun W => run_add_text (P := Tryd.prog) D2 Z2 X2 hX2 (by omega) W
  have a3 := fun W => run_add_text (P := Tryd.prog) P1 X1 R1 hR1 (by omega) W
  have a4 := fun W => run_add_text (P := Tryd.prog) P2 X2 R2 hR2 (by omega) W
  have sX1 : (⟨X1.toArray⟩ : ByteArray).size = k1 := by rw [size_mk, lX1]
  have sX2 : (⟨X2.toArray⟩ : ByteArray).size = k2 := by rw [size_mk, lX2]
  obtain ⟨W0, hW0⟩ : ∃ W0, W0 = ((w.alloc (.cells #[.bool n1, .string ⟨D1.toArray⟩, .int .i64 (s1 : Int)] 23)).alloc (.cells #[.bool n2, .string ⟨D2.toArray⟩, .int .i64 (s2 : Int)] 23)) := ⟨_, rfl⟩
  have k0 : Kp [] w W0 := by rw [hW0]; exact ((Kp.refl _ _).alloc _).alloc _
  have c0 : Cells W0 w.heap.size 23 [.bool n1, .string ⟨D1.toArray⟩, .int .i64 (s1 : Int)] := by rw [hW0]; exact (Cells.fresh w 23 _).alloc _
  have c1 : Cells W0 (w.heap.size + 1) 23 [.bool n2, .string ⟨D2.toArray⟩, .int .i64 (s2 : Int)] := by rw [hW0]; exact Cells.fresh1 w _ 23 _
  have HW := hid (And.intro hW0 (And.intro k0 (And.intro c0 c1)))
  clear hW0 k0 c0 c1
  clear hR1 hR2 hS hz1 hz2 hk1 hk2 hn hp1 hp2 hZ1 hZ2 hP1 hP2 lZ1 lZ2 lP1 lP2 hX1 hX2 lX1 lX2
  go_enter Tryd.func61, Tryd.ntmps61
  go_upto_region 1 with fail
  rw [← HW.out.1]
  have x1 := HW.out.2.2.1.cell 1
  have x2 := HW.out.2.2.1.cell 2
  have y1 := HW.out.2.2.2.cell 1
  have y2 := HW.out.2.2.2.cell 2
  simp only [List.getElem?_cons_zero, List.getElem?_cons_succ] at x1 x2 y1 y2
  go_wp2_with fail
  go_quiet ((go_at_call 66; exact Calls.quiet_of_same (q1 _)))
  have kq := (Kp.refl [] W0).drewN nq
  replace y1 := kq.cell y1 (by simp)
  replace y2 := kq.cell y2 (by simp)
  have HQ := hid (HW.out.2.1.nil kq)
  clear kq x1 x2
  generalize W0.drewN nq = W1 at y1 y2 HQ ⊢
  go_wp2_with fail
  go_quiet ((go_at_call 66; exact Calls.quiet_of_same (q2 _)))
  go_wp2_with fail
  have HQ2 := hid (HQ.out.drewN nq)
  clear HQ
  refine (q3 _).mono ?_
  rintro e w3 ⟨rfl, rfl⟩
  go_wp2_with fail
  refine (q4 _).mono ?_
  rintro e w4 ⟨rfl, rfl⟩
  go_wp2_with fail
  go_ret3
  exact ⟨rfl, HQ2.out⟩
end Go.Proofs.YtampgimmodomoaaDoor
