/- A machine's rune and place. -/
import Derived.Test.YtaaikjedagnjbaaGPut
import Derived.Laws.EntriesVeiled
namespace Go.Proofs.Ytaaikjedagnjbaa
open Go Go.RowKit Go.Lib

set_option maxRecDepth 100000 in
set_option maxHeartbeats 6400000 in
theorem mrune_any (w : World) (mb : Nat) (E R : Nat → Prop) (M : List St) (h : MachAt w mb E R M) (hM : M.length ≤ 900000) (hR : ∀ x, R x → x < w.heap.size) (v : Value) (f : Nat → Bool) (hv : FnT w (fun x => E x ∨ R x) v f) :
    Calls Try.prog 57 #[.pointer (some ⟨mb, 0, none⟩), v] w fun e w' => e = .returned (.agg #[.int .i64 ((M.length + 1 : Nat) : Int), .int .i64 (M.length : Int)]) ∧ ∃ E', MachAt w' mb E' R (M ++ [⟨none, none, []⟩, { (⟨none, none, [M.length]⟩ : St) with tk := some f }]) ∧ Grew w E w' E' := by
  obtain ⟨F, cap, rfl, -⟩ := id hv
  obtain ⟨w1, hw1⟩ : ∃ w1, w1 = w.alloc (.cells #[.int .i64 0, .int .i64 0] 50) := ⟨_, rfl⟩
  have k1 : Kp [] w w1 := by rw [hw1]; exact (Kp.refl _ _).alloc _
  have s1 : w1.heap.size = w.heap.size + 1 := by rw [hw1]; simp
  have hc1 : Cells w1 w.heap.size 50 [.int .i64 0, .int .i64 0] := by rw [hw1]; exact Cells.fresh w 50 _
  obtain ⟨gc, hgc⟩ : ∃ g, g = w.heap.size := ⟨_, rfl⟩
  have h1 : MachAt w1 mb E (fun x => R x ∨ x = gc) M := h.move (Kq.of k1) hR (fun x hx => by
    rcases hx with hx | hx
    · exact .inl hx
    · exact .inr (by omega))
  have hR1 : ∀ x, (R x ∨ x = gc) → x < w1.heap.size := fun x hx => by
    rcases hx with hx | hx
    · have := hR x hx; omega
    · omega
  have hgE : ¬ E gc := fun hh => absurd (h.lt _ hh) (by omega)
  have q1 := add_any w1 w1 mb E _ M h1 (by omega) (Kp.refl _ _) hR1 (.slice none 0 0) [] (Own.nil _ _) (by intro g hg; cases hg)
  obtain ⟨n, hn⟩ : ∃ n, n = M.length := ⟨_, rfl⟩
  rw [← hn] at q1 hM ⊢
  rw [← hgc] at hc1
  have hgs : gc < w1.heap.size := by omega
  have HM := hid (And.intro hn (And.intro hR (And.intro hv (And.intro hgE (And.intro hR1 (And.intro hgs (And.intro k1 (Nat.le_of_eq hgc.symm))))))))
  have Hc := hid hc1
  have HW1 := hid hw1
  have HGC := hid hgc
  clear h h1 hn hR hv s1 hw1 k1 hc1 hgE hR1 hgs
  go_enter Try.func57, Try.ntmps57
  go_upto_region 1 with fail
  rw [← HW1.out, ← HGC.out]
  clear HW1 HGC hgc
  go_wp2_with fail
  (with_reducible refine q1.mono ?_)
  clear q1
  rintro e w2 ⟨rfl, E1, m1, g1⟩
  have hc2 : Cells w2 gc 50 [.int .i64 0, .int .i64 0] := g1.kq.cells Hc.out HM.out.2.2.2.1
  have hgE1 : ¬ E1 gc := fun hh => by
    rcases g1.own _ hh with h | h
    · exact HM.out.2.2.2.1 h
    · have := HM.out.2.2.2.2.2.1; omega
  have hR2 : ∀ x, (R x ∨ x = gc) → x < w2.heap.size := fun x hx => Nat.lt_of_lt_of_le (HM.out.2.2.2.2.1 x hx) g1.kq.size
  obtain ⟨w3, hw3⟩ : ∃ w3, w3 = w2.alloc (.cells #[.int .i64 (n : Int)] 3) := ⟨_, rfl⟩
  have k3 : Kp [] w2 w3 := by rw [hw3]; exact (Kp.refl _ _).alloc _
  have c3 : Cells w3 w2.heap.size 3 [.int .i64 (n : Int)] := by rw [hw3]; exact Cells.fresh w2 3 _
  have q2 := add_any w2 w3 mb E1 _ _ m1 (by rw [List.length_append, ← HM.out.1, List.length_singleton]; omega) k3 hR2 (.slice (some ⟨w2.heap.size, 0, none⟩) 1 1) [n] (Own.of_cells c3 (by simp [ints])) (by intro g hg; have hg : some w2.heap.size = some g := hg; injection hg with hg; omega)
  have hl1 : (M ++ [(⟨none, none, []⟩ : St)]).length = n + 1 := by rw [List.length_append, ← HM.out.1, List.length_singleton]
  rw [hl1] at q2
  have HW3 := hid hw3
  have H2 := hid (And.intro hc2 (And.intro hgE1 (And.intro hR2 (And.intro g1 hl1))))
  clear hc2 hgE1 hR2 g1 hl1 m1 hw3 k3 c3
  go_upto_region 2 with fail
  go_wp2_with (rw [← HW3.out])
  first | rw [← HW3.out] | skip
  (with_reducible refine q2.mono ?_)
  clear q2
  rintro e w4 ⟨rfl, E2, m2, g2⟩
  have hc4 : Cells w4 gc 50 [.int .i64 0, .int .i64 0] := g2.kq.cells H2.out.1 H2.out.2.1
  have hgE2 : ¬ E2 gc := fun hh => by
    rcases g2.own _ hh with h | h
    · exact H2.out.2.1 h
    · have := H2.out.2.2.1 gc (.inr rfl); omega
  have g02 : Grew w E w4 E2 := Grew.after HM.out.2.2.2.2.2.2.1 (H2.out.2.2.2.1.trans g2)
  have hv4 : FnT w4 (fun x => E2 x ∨ (R x ∨ x = gc)) (.func (.func F) #[] cap) f := HM.out.2.2.1.later (g02.kq.mono fun x hx => .inl (.inl hx)) (fun x hx => by
    rcases hx with hx | hx | hx
    · rcases g02.own x hx with h | h
      · exact .inl (.inl h)
      · exact .inr h
    · exact .inl (.inr hx)
    · exact .inr (by have := HM.out.2.2.2.2.2.2.2; omega))
  have hst : ((M ++ [(⟨none, none, []⟩ : St)]) ++ [(⟨none, none, [n]⟩ : St)])[n + 1]? = some ⟨none, none, [n]⟩ := by
    rw [List.getElem?_append_right (by rw [H2.out.2.2.2.2]; exact Nat.le_refl _), H2.out.2.2.2.2, Nat.sub_self]; rfl
  obtain ⟨sb, cap4, x0, fr, ⟨ov, o0⟩, hcap, m3, g3⟩ := mach_takes m2 hst _ f hv4
  have hll : ((M ++ [(⟨none, none, []⟩ : St)]) ++ [(⟨none, none, [n]⟩ : St)]).length = n + 2 := by rw [List.length_append, H2.out.2.2.2.2, List.length_singleton]
  rw [hll] at x0
  simp only [Nat.add_zero] at fr o0 m3 g3
  have hms : ((M ++ [(⟨none, none, []⟩ : St)]) ++ [(⟨none, none, [n]⟩ : St)]).set (n + 1) { (⟨none, none, [n]⟩ : St) with tk := some f } = M ++ [⟨none, none, []⟩, { (⟨none, none, [n]⟩ : St) with tk := some f }] := by
    rw [List.set_append_right _ _ (by rw [H2.out.2.2.2.2]; exact Nat.le_refl _), H2.out.2.2.2.2, Nat.sub_self, List.append_assoc]; rfl
  rw [hms] at m3
  have hc5 : Cells (w4.setCell ⟨sb, 3 * (n + 1), none⟩ (.func (.func F) #[] cap)) gc 50 [.int .i64 0, .int .i64 0] := g3.kq.cells hc4 hgE2
  obtain ⟨w5, hw5⟩ : ∃ w5, w5 = w4.setCell ⟨sb, 3 * (n + 1), none⟩ (.func (.func F) #[] cap) := ⟨_, rfl⟩
  rw [← hw5] at m3 g3 hc5
  have hR5 : ∀ x, (R x ∨ x = gc) → x < w5.heap.size := fun x hx => Nat.lt_of_lt_of_le (H2.out.2.2.1 x hx) (Nat.le_trans g2.kq.size g3.kq.size)
  obtain ⟨w6, hw6⟩ : ∃ w6, w6 = (w5.setCell ⟨gc, 0, none⟩ (.int .i64 ((n : Int) + 1))).setCell ⟨gc, 1, none⟩ (.int .i64 (n : Int)) := ⟨_, rfl⟩
  have k6 : Kp [gc] w5 w6 := by rw [hw6]; exact ((Kp.refl _ _).setCell (fun _ => by simp) _).setCell (fun _ => by simp) _
  have c6 : Cells w6 gc 50 [.int .i64 ((n : Int) + 1), .int .i64 (n : Int)] := by rw [hw6]; exact (hc5.put 0 _).put 1 _
  have kq6 : Kq (fun x => R x ∨ x = gc) w5 w6 := ⟨[gc], fun x hx => .inr (List.mem_singleton.1 hx), k6⟩
  have m6 : MachAt w6 mb E2 R _ := (m3.move kq6 hR5 (fun x hx => .inl hx)).move (Kq.refl _ _) (fun x hx => Nat.lt_of_lt_of_le (hR5 x hx) k6.size) (fun x hx => .inl (.inl hx))
  have g6 : Grew w E w6 E2 := ⟨(g02.trans g3).own, by
    obtain ⟨S, hS, kk⟩ := (g02.trans g3).kq
    exact ⟨S, hS, kk.fresh k6 HM.out.2.2.2.2.2.2.2⟩⟩
  have HE := hid (And.intro m6 g6)
  have HC6 := hid c6
  have y0 := hc5.cell 0
  have y1 := hc5.cell 1
  have z0 := c6.cell 0
  have z1 := c6.cell 1
  have f0 := hc5.free 0
  have f1 := hc5.free 1
  have f0' := (hc5.put 0 (.int .i64 ((n + 1 : Nat) : Int))).free 1
  have y1' := (hc5.put 0 (.int .i64 ((n + 1 : Nat) : Int))).cell 1
  simp only [List.getElem?_cons_zero, List.getElem?_cons_succ, List.set_cons_zero] at y0 y1 z0 z1 y1'
  have j0 : ((n + 1 : Nat) : Int) < ((n + 2 : Nat) : Int) := by omega
  have j1 : n + 1 < n + 2 := by omega
  have e3 : (n + 1) * 3 = 3 * (n + 1) := Nat.mul_comm _ _
  have HX := hid hw5
  have HY := hid hw6
  clear m6 g6 m3 g3 hw5 hw6 hc4 hgE2 g02 hv4 hst hll hms hR5 k6 c6 kq6 m2 g2
  go_upto_region 3 with fail
  go_wp2_with (rw [← HX.out])
  rw [← HY.out]
  exact bodyPost_ret (results_cell_row rfl _ _ gc 50 _ _ _ rfl HC6.out Try.underlying50 rfl (by kernel_rfl)) rfl ⟨rfl, E2, HE.out⟩
set_option maxRecDepth 100000 in
set_option maxHeartbeats 6400000 in
theorem place_any (w : World) (mb : Nat) (E R : Nat → Prop) (M : List St) (h : MachAt w mb E R M) (hM : M.length ≤ 900000) (hR : ∀ x, R x → x < w.heap.size) (v : Value) (f : Nat → Nat → Bool) (hv : FnW w (fun x => E x ∨ R x) v f) :
    Calls Try.prog 59 #[.pointer (some ⟨mb, 0, none⟩), v] w fun e w' => e = .returned (.agg #[.int .i64 ((M.length + 1 : Nat) : Int), .int .i64 (M.length : Int)]) ∧ ∃ E', MachAt w' mb E' R (M ++ [⟨none, none, []⟩, { (⟨none, none, [M.length]⟩ : St) with wh := some f }]) ∧ Grew w E w' E' := by
  obtain ⟨F, cap, rfl, -⟩ := id hv
  obtain ⟨w1, hw1⟩ : ∃ w1, w1 = w.alloc (.cells #[.int .i64 0, .int .i64 0] 50) := ⟨_, rfl⟩
  have k1 : Kp [] w w1 := by rw [hw1]; exact (Kp.refl _ _).alloc _
  have s1 : w1.heap.size = w.heap.size + 1 := by rw [hw1]; simp
  have hc1 : Cells w1 w.heap.size 50 [.int .i64 0, .int .i64 0] := by rw [hw1]; exact Cells.fresh w 50 _
  obtain ⟨gc, hgc⟩ : ∃ g, g = w.heap.size := ⟨_, rfl⟩
  have h1 : MachAt w1 mb E (fun x => R x ∨ x = gc) M := h.move (Kq.of k1) hR (fun x hx => by
    rcases hx with hx | hx
    · exact .inl hx
    · exact .inr (by omega))
  have hR1 : ∀ x, (R x ∨ x = gc) → x < w1.heap.size := fun x hx => by
    rcases hx with hx | hx
    · have := hR x hx; omega
    · omega
  have hgE : ¬ E gc := fun hh => absurd (h.lt _ hh) (by omega)
  have q1 := add_any w1 w1 mb E _ M h1 (by omega) (Kp.refl _ _) hR1 (.slice none 0 0) [] (Own.nil _ _) (by intro g hg; cases hg)
  obtain ⟨n, hn⟩ : ∃ n, n = M.length := ⟨_, rfl⟩
  rw [← hn] at q1 hM ⊢
  rw [← hgc] at hc1
  have hgs : gc < w1.heap.size := by omega
  have HM := hid (And.intro hn (And.intro hR (And.intro hv (And.intro hgE (And.intro hR1 (And.intro hgs (And.intro k1 (Nat.le_of_eq hgc.symm))))))))
  have Hc := hid hc1
  have HW1 := hid hw1
  have HGC := hid hgc
  clear h h1 hn hR hv s1 hw1 k1 hc1 hgE hR1 hgs
  go_enter Try.func59, Try.ntmps59
  go_upto_region 1 with fail
  rw [← HW1.out, ← HGC.out]
  clear HW1 HGC hgc
  go_wp2_with fail
  (with_reducible refine q1.mono ?_)
  clear q1
  rintro e w2 ⟨rfl, E1, m1, g1⟩
  have hc2 : Cells w2 gc 50 [.int .i64 0, .int .i64 0] := g1.kq.cells Hc.out HM.out.2.2.2.1
  have hgE1 : ¬ E1 gc := fun hh => by
    rcases g1.own _ hh with h | h
    · exact HM.out.2.2.2.1 h
    · have := HM.out.2.2.2.2.2.1; omega
  have hR2 : ∀ x, (R x ∨ x = gc) → x < w2.heap.size := fun x hx => Nat.lt_of_lt_of_le (HM.out.2.2.2.2.1 x hx) g1.kq.size
  obtain ⟨w3, hw3⟩ : ∃ w3, w3 = w2.alloc (.cells #[.int .i64 (n : Int)] 3) := ⟨_, rfl⟩
  have k3 : Kp [] w2 w3 := by rw [hw3]; exact (Kp.refl _ _).alloc _
  have c3 : Cells w3 w2.heap.size 3 [.int .i64 (n : Int)] := by rw [hw3]; exact Cells.fresh w2 3 _
  have q2 := add_any w2 w3 mb E1 _ _ m1 (by rw [List.length_append, ← HM.out.1, List.length_singleton]; omega) k3 hR2 (.slice (some ⟨w2.heap.size, 0, none⟩) 1 1) [n] (Own.of_cells c3 (by simp [ints])) (by intro g hg; have hg : some w2.heap.size = some g := hg; injection hg with hg; omega)
  have hl1 : (M ++ [(⟨none, none, []⟩ : St)]).length = n + 1 := by rw [List.length_append, ← HM.out.1, List.length_singleton]
  rw [hl1] at q2
  have HW3 := hid hw3
  have H2 := hid (And.intro hc2 (And.intro hgE1 (And.intro hR2 (And.intro g1 hl1))))
  clear hc2 hgE1 hR2 g1 hl1 m1 hw3 k3 c3
  go_upto_region 2 with fail
  go_wp2_with (rw [← HW3.out])
  first | rw [← HW3.out] | skip
  (with_reducible refine q2.mono ?_)
  clear q2
  rintro e w4 ⟨rfl, E2, m2, g2⟩
  have hc4 : Cells w4 gc 50 [.int .i64 0, .int .i64 0] := g2.kq.cells H2.out.1 H2.out.2.1
  have hgE2 : ¬ E2 gc := fun hh => by
    rcases g2.own _ hh with h | h
    · exact H2.out.2.1 h
    · have := H2.out.2.2.1 gc (.inr rfl); omega
  have g02 : Grew w E w4 E2 := Grew.after HM.out.2.2.2.2.2.2.1 (H2.out.2.2.2.1.trans g2)
  have hv4 : FnW w4 (fun x => E2 x ∨ (R x ∨ x = gc)) (.func (.func F) #[] cap) f := HM.out.2.2.1.later (g02.kq.mono fun x hx => .inl (.inl hx)) (fun x hx => by
    rcases hx with hx | hx | hx
    · rcases g02.own x hx with h | h
      · exact .inl (.inl h)
      · exact .inr h
    · exact .inl (.inr hx)
    · exact .inr (by have := HM.out.2.2.2.2.2.2.2; omega))
  have hst : ((M ++ [(⟨none, none, []⟩ : St)]) ++ [(⟨none, none, [n]⟩ : St)])[n + 1]? = some ⟨none, none, [n]⟩ := by
    rw [List.getElem?_append_right (by rw [H2.out.2.2.2.2]; exact Nat.le_refl _), H2.out.2.2.2.2, Nat.sub_self]; rfl
  obtain ⟨sb, cap4, x0, fr, ⟨ov, o0⟩, hcap, m3, g3⟩ := mach_where m2 hst _ f hv4
  have hll : ((M ++ [(⟨none, none, []⟩ : St)]) ++ [(⟨none, none, [n]⟩ : St)]).length = n + 2 := by rw [List.length_append, H2.out.2.2.2.2, List.length_singleton]
  rw [hll] at x0

  have hms : ((M ++ [(⟨none, none, []⟩ : St)]) ++ [(⟨none, none, [n]⟩ : St)]).set (n + 1) { (⟨none, none, [n]⟩ : St) with wh := some f } = M ++ [⟨none, none, []⟩, { (⟨none, none, [n]⟩ : St) with wh := some f }] := by
    rw [List.set_append_right _ _ (by rw [H2.out.2.2.2.2]; exact Nat.le_refl _), H2.out.2.2.2.2, Nat.sub_self, List.append_assoc]; rfl
  rw [hms] at m3
  have hc5 : Cells (w4.setCell ⟨sb, 3 * (n + 1) + 1, none⟩ (.func (.func F) #[] cap)) gc 50 [.int .i64 0, .int .i64 0] := g3.kq.cells hc4 hgE2
  obtain ⟨w5, hw5⟩ : ∃ w5, w5 = w4.setCell ⟨sb, 3 * (n + 1) + 1, none⟩ (.func (.func F) #[] cap) := ⟨_, rfl⟩
  rw [← hw5] at m3 g3 hc5
  have hR5 : ∀ x, (R x ∨ x = gc) → x < w5.heap.size := fun x hx => Nat.lt_of_lt_of_le (H2.out.2.2.1 x hx) (Nat.le_trans g2.kq.size g3.kq.size)
  obtain ⟨w6, hw6⟩ : ∃ w6, w6 = (w5.setCell ⟨gc, 0, none⟩ (.int .i64 ((n : Int) + 1))).setCell ⟨gc, 1, none⟩ (.int .i64 (n : Int)) := ⟨_, rfl⟩
  have k6 : Kp [gc] w5 w6 := by rw [hw6]; exact ((Kp.refl _ _).setCell (fun _ => by simp) _).setCell (fun _ => by simp) _
  have c6 : Cells w6 gc 50 [.int .i64 ((n : Int) + 1), .int .i64 (n : Int)] := by rw [hw6]; exact (hc5.put 0 _).put 1 _
  have kq6 : Kq (fun x => R x ∨ x = gc) w5 w6 := ⟨[gc], fun x hx => .inr (List.mem_singleton.1 hx), k6⟩
  have m6 : MachAt w6 mb E2 R _ := (m3.move kq6 hR5 (fun x hx => .inl hx)).move (Kq.refl _ _) (fun x hx => Nat.lt_of_lt_of_le (hR5 x hx) k6.size) (fun x hx => .inl (.inl hx))
  have g6 : Grew w E w6 E2 := ⟨(g02.trans g3).own, by
    obtain ⟨S, hS, kk⟩ := (g02.trans g3).kq
    exact ⟨S, hS, kk.fresh k6 HM.out.2.2.2.2.2.2.2⟩⟩
  have HE := hid (And.intro m6 g6)
  have HC6 := hid c6
  have y0 := hc5.cell 0
  have y1 := hc5.cell 1
  have z0 := c6.cell 0
  have z1 := c6.cell 1
  have f0 := hc5.free 0
  have f1 := hc5.free 1
  have f0' := (hc5.put 0 (.int .i64 ((n + 1 : Nat) : Int))).free 1
  have y1' := (hc5.put 0 (.int .i64 ((n + 1 : Nat) : Int))).cell 1
  simp only [List.getElem?_cons_zero, List.getElem?_cons_succ, List.set_cons_zero] at y0 y1 z0 z1 y1'
  have j0 : ((n + 1 : Nat) : Int) < ((n + 2 : Nat) : Int) := by omega
  have j1 : n + 1 < n + 2 := by omega
  have e3 : (n + 1) * 3 = 3 * (n + 1) := Nat.mul_comm _ _
  have HX := hid hw5
  have HY := hid hw6
  clear m6 g6 m3 g3 hw5 hw6 hc4 hgE2 g02 hv4 hst hll hms hR5 k6 c6 kq6 m2 g2
  go_upto_region 3 with fail
  go_wp2_with (rw [← HX.out])
  rw [← HY.out]
  exact bodyPost_ret (results_cell_row rfl _ _ gc 50 _ _ _ rfl HC6.out Try.underlying50 rfl (by kernel_rfl)) rfl ⟨rfl, E2, HE.out⟩
end Go.Proofs.Ytaaikjedagnjbaa
