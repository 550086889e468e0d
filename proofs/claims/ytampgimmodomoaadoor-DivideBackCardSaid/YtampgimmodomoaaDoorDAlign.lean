/- aligned of layer 1. -/
import Derived.Test.YtampgimmodomoaaDoorDReads
import Derived.Test.YtampgimmodomoaaDoorDVals
import Derived.Deep.RegionHeld3
namespace Go.Proofs.YtampgimmodomoaaDoor
open Go Go.RowKit Go.Lib

set_option maxRecDepth 100000 in
set_option maxHeartbeats 3200000 in
theorem clos_any (w : World) (neg : Bool) (D : List UInt8) (hD : Digs D) (hl : D.length ≤ 1000) (s S b : Nat) (hs : s ≤ S) (hS : S ≤ 1000) (hc : w.cell? ⟨b, 0, none⟩ = some (.int .i64 (S : Int))) (hb : b < w.heap.size) :
    Calls Tryd.prog 97 #[.agg #[.bool neg, .string ⟨D.toArray⟩, .int .i64 (s : Int)], .pointer (some ⟨b, 0, none⟩)] w (NatPost w (val D * 10 ^ (S - s))) := by
  obtain ⟨n, hn⟩ : ∃ n, n = S - s := ⟨_, rfl⟩
  rw [← hn]
  have hw : IntKind.i64.wrap ((S : Int) - (s : Int)) = (n : Int) := by rw [IntWalk.i64_in _ (by omega)]; omega
  have hz := val_append D (List.replicate n 48)
  rw [val_zeros, List.length_replicate, Nat.add_zero] at hz
  have qN := fun X => natOf_any X (D ++ List.replicate n 48) (hD.append (Digs.zeros n)) (by rw [List.length_append, List.length_replicate]; omega)
  rw [hz] at qN
  obtain ⟨V, hV⟩ : ∃ V, V = val D * 10 ^ n := ⟨_, rfl⟩
  simp only [← hV] at qN ⊢
  have qR := fun X => repeat_any X n (by omega)
  have hadd := fun X => run_add_text (P := Tryd.prog) D (List.replicate n 48) (D ++ List.replicate n 48) rfl (by rw [List.length_replicate]; omega) X
  obtain ⟨Z, hZ⟩ : ∃ Z : List UInt8, Z = List.replicate n 48 := ⟨_, rfl⟩
  simp only [← hZ] at qR hadd qN
  obtain ⟨J, hJ⟩ : ∃ J, J = D ++ Z := ⟨_, rfl⟩
  simp only [← hJ] at hadd qN
  have hbn : b ≠ w.heap.size := by omega
  have hA : ∀ o, (w.alloc o).cell? ⟨b, 0, none⟩ = some (.int .i64 (S : Int)) := fun o => ((Kp.refl [] w).alloc o).cell hc (by simp)
  have HA := hid hA
  clear hA
  clear hn hz hV hZ hJ hD hl hs hS
  go_enter Tryd.func97, Tryd.ntmps97
  go_wp2_with fail
  go_region_held3 (fun w' => w'.cell? ⟨w.heap.size, 1, none⟩ = some (.string ⟨D.toArray⟩) ∧ w'.cell? ⟨w.heap.size, 2, none⟩ = some (.int .i64 (s : Int)) ∧ w'.cell? ⟨b, 0, none⟩ = some (.int .i64 (S : Int)))
    (first | exact ⟨y1, y2, y3⟩ | exact ⟨v1, v2, v3⟩ | go_keep)
    (first
      | (go_at_call 51; (with_reducible refine (qR _).mono ?_); rintro e w5 ⟨rfl, k5⟩; have y1 := k5.cell (p := ⟨w.heap.size, 1, none⟩) (v := .string ⟨D.toArray⟩) (by simp) (by simp); have y2 := k5.cell (p := ⟨w.heap.size, 2, none⟩) (v := .int .i64 (s : Int)) (by simp) (by simp); have y3 := k5.cell (p := ⟨b, 0, none⟩) (v := .int .i64 (S : Int)) (HA.out _) (by simp))
      | (go_at_call 53; (with_reducible refine (qN _).mono ?_); rintro e w6 ⟨A6, c6, rfl, N6, k6⟩; have v1 := k6.cell y1 (by simp); have v2 := k6.cell y2 (by simp); have v3 := k6.cell y3 (by simp)))
  have KF : Kp [] w w6 := (((Kp.refl [] w).alloc _).drew.nil k5).nil k6
  have HF := hid (And.intro N6 KF)
  clear N6 KF k5 k6 y1 y2 y3 v1 v2 v3
  go_wp2_with fail
  go_ret
  exact ⟨A6, c6, rfl, HF.out.1, HF.out.2⟩
/-- The numbers of both with the same scale. -/
def AlPost (w : World) (X Y S : Nat) (e : Ending) (w' : World) : Prop := ∃ A c B d, e = .returned (.tuple #[.slice A (limLen X) c, .slice B (limLen Y) d, .int .i64 (S : Int)]) ∧ NatA w' A c X ∧ NatA w' B d Y ∧ Kp [] w w'
set_option maxRecDepth 100000 in
set_option maxHeartbeats 6400000 in
theorem aligned_any (w : World) (n1 n2 : Bool) (D1 D2 : List UInt8) (h1 : Digs D1) (h2 : Digs D2) (l1 : D1.length ≤ 1000) (l2 : D2.length ≤ 1000) (s1 s2 : Nat) (b1 : s1 ≤ 1000) (b2 : s2 ≤ 1000) :
    Calls Tryd.prog 57 #[.agg #[.bool n1, .string ⟨D1.toArray⟩, .int .i64 (s1 : Int)], .agg #[.bool n2, .string ⟨D2.toArray⟩, .int .i64 (s2 : Int)]] w
      (AlPost w (val D1 * 10 ^ (max s1 s2 - s1)) (val D2 * 10 ^ (max s1 s2 - s2)) (max s1 s2)) := by
  obtain ⟨S, hS⟩ : ∃ S, S = max s1 s2 := ⟨_, rfl⟩
  rw [← hS]
  have hmx : max (s1 : Int) (s2 : Int) = (S : Int) := by omega
  have q1 := fun X b hc hb => clos_any X n1 D1 h1 l1 s1 S b (by omega) (by omega) hc hb
  have q2 := fun X b hc hb => clos_any X n2 D2 h2 l2 s2 S b (by omega) (by omega) hc hb
  obtain ⟨U, hU⟩ : ∃ U, U = val D1 * 10 ^ (S - s1) := ⟨_, rfl⟩
  obtain ⟨V, hV⟩ : ∃ V, V = val D2 * 10 ^ (S - s2) := ⟨_, rfl⟩
  simp only [← hU] at q1 ⊢
  simp only [← hV] at q2 ⊢
  have hmf : ∀ (fn : Fn) (first cap : Array Value) (w : World), (Instr.makeFunc fn first cap).run Tryd.prog w = .ok (.func fn first cap) w := fun _ _ _ _ => rfl
  clear hS hU hV h1 h2 l1 l2 b1 b2
  go_enter Tryd.func57, Tryd.ntmps57
  go_wp2_with fail
  obtain ⟨W0, hW0⟩ : ∃ W0, W0 = (((w.alloc (.cells #[.bool n1, .string ⟨D1.toArray⟩, .int .i64 (s1 : Int)] 23)).alloc (.cells #[.bool n2, .string ⟨D2.toArray⟩, .int .i64 (s2 : Int)] 23)).alloc (.cells #[.int .i64 (S : Int)] 3)) := ⟨_, rfl⟩
  have hK0 : Kp [] w W0 := by rw [hW0]; exact (((Kp.refl _ _).alloc _).alloc _).alloc _
  have hC0 : Cells W0 w.heap.size 23 [.bool n1, .string ⟨D1.toArray⟩, .int .i64 (s1 : Int)] := by rw [hW0]; exact ((Cells.fresh w 23 _).alloc _).alloc _
  have hC1 : Cells W0 (w.heap.size + 1) 23 [.bool n2, .string ⟨D2.toArray⟩, .int .i64 (s2 : Int)] := by rw [hW0]; exact (Cells.fresh1 w _ 23 _).alloc _
  have hC2 : Cells W0 (w.heap.size + 1 + 1) 3 [.int .i64 (S : Int)] := by
    rw [hW0]
    have := Cells.fresh1 (w.alloc (.cells #[.bool n1, .string ⟨D1.toArray⟩, .int .i64 (s1 : Int)] 23)) (.cells #[.bool n2, .string ⟨D2.toArray⟩, .int .i64 (s2 : Int)] 23) 3 [.int .i64 (S : Int)]
    simpa using this
  rw [← hW0]
  obtain ⟨g0, hg0⟩ : ∃ g0, g0 = w.heap.size := ⟨_, rfl⟩
  simp only [← hg0] at hC0 hC1 hC2 ⊢
  have hl2 := hC2.lt
  have Hl2 := hid hl2
  have x0 := hC0.cell 0
  have x1 := hC0.cell 1
  have x2 := hC0.cell 2
  have x3 := hC1.cell 0
  have x4 := hC1.cell 1
  have x5 := hC1.cell 2
  have x6 := hC2.cell 0
  simp only [List.getElem?_cons_zero, List.getElem?_cons_succ] at x0 x1 x2 x3 x4 x5 x6
  have x6d : W0.drew.cell? ⟨g0 + 1 + 1, 0, none⟩ = some (.int .i64 (S : Int)) := x6
  have X6 := hid (And.intro x6d (show g0 + 1 + 1 < W0.drew.heap.size from hl2))
  clear x6d
  have HK0 := hid hK0
  clear hW0 hC0 hC1 hC2 hg0 hl2 hK0 hmx
  go_region_held3 (fun w' => w'.cell? ⟨g0, 0, none⟩ = some (.bool n1) ∧ w'.cell? ⟨g0, 1, none⟩ = some (.string ⟨D1.toArray⟩) ∧ w'.cell? ⟨g0, 2, none⟩ = some (.int .i64 (s1 : Int)) ∧ w'.cell? ⟨g0 + 1, 0, none⟩ = some (.bool n2) ∧ w'.cell? ⟨g0 + 1, 1, none⟩ = some (.string ⟨D2.toArray⟩) ∧ w'.cell? ⟨g0 + 1, 2, none⟩ = some (.int .i64 (s2 : Int)) ∧ w'.cell? ⟨g0 + 1 + 1, 0, none⟩ = some (.int .i64 (S : Int)))
    (first | exact ⟨u0, u1, u2, u3, u4, u5, u6⟩ | exact ⟨y0, y1, y2, y3, y4, y5, y6⟩ | exact ⟨x0, x1, x2, x3, x4, x5, x6⟩ | go_keep)
    (first
      | (go_at_call 97; (with_reducible refine (q1 _ (g0 + 1 + 1) X6.out.1 X6.out.2).mono ?_); rintro e w5 ⟨A5, c5, rfl, N5, k5⟩; have hl5 : g0 + 1 + 1 < w5.heap.size := Nat.lt_of_lt_of_le Hl2.out k5.size; have y0 := k5.cell x0 (by simp); have y1 := k5.cell x1 (by simp); have y2 := k5.cell x2 (by simp); have y3 := k5.cell x3 (by simp); have y4 := k5.cell x4 (by simp); have y5 := k5.cell x5 (by simp); have y6 := k5.cell x6 (by simp))
      | (go_at_call 97; (with_reducible refine (q2 _ (g0 + 1 + 1) y6 hl5).mono ?_); rintro e w6 ⟨A6, c6, rfl, N6, k6⟩; have u0 := k6.cell y0 (by simp); have u1 := k6.cell y1 (by simp); have u2 := k6.cell y2 (by simp); have u3 := k6.cell y3 (by simp); have u4 := k6.cell y4 (by simp); have u5 := k6.cell y5 (by simp); have u6 := k6.cell y6 (by simp)))
  have KF : Kp [] w w6 := (HK0.out.drew.nil k5).nil k6
  have HF := hid (And.intro KF (And.intro (LimA.kept N5 k6) N6))
  clear KF k5 k6 N5 N6
  go_wp2_with fail
  go_ret3
  exact ⟨A5, c5, A6, c6, rfl, HF.out.2.1, HF.out.2.2, HF.out.1⟩
end Go.Proofs.YtampgimmodomoaaDoor
