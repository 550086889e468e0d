/- A machine's many. -/
import Derived.Test.YtaaikjedagnjbaaGRune
import Derived.Test.YtaaikjedagnjbaaGTo
import Derived.Test.YtaaikjedagnjbaaRA
namespace Go.Proofs.Ytaaikjedagnjbaa
open Go Go.RowKit Go.Lib

theorem Grew.out {w w' : World} {E E' : Nat → Prop} (g : Grew w E w' E') {b : Nat} (hb : b < w.heap.size) (h : ¬ E b) : ¬ E' b := fun hh => by
  rcases g.own b hh with h' | h'
  · exact h h'
  · omega
theorem toM_any (w : World) (mb : Nat) (E R : Nat → Prop) (M : List St) (h : MachAt w mb E R M) (hM : wt M ≤ 1000000) (hR : ∀ x, R x → x < w.heap.size) (i k : Nat) (hi : i < M.length) :
    Calls Try.prog 42 #[.pointer (some ⟨mb, 0, none⟩), .int .i64 (i : Int), .int .i64 (k : Int)] w fun e w' => e = .returned (.tuple #[]) ∧ ∃ E', MachAt w' mb E' R (goTo M i k) ∧ Grew w E w' E' := by
  have hst : M[i]? = some M[i] := List.getElem?_eq_getElem hi
  rw [goTo_eq hst]
  exact to_any w mb E R M h (Nat.le_trans (wt_len M) hM) hR i k _ hst (Nat.le_trans (wt_nx M i _ hst) hM)
set_option maxRecDepth 100000 in
set_option maxHeartbeats 6400000 in
theorem many_any (w : World) (mb : Nat) (E R : Nat → Prop) (M : List St) (h : MachAt w mb E R M) (hM : wt M ≤ 900000) (hR : ∀ x, R x → x < w.heap.size) (f l : Nat) (hl : l < M.length) (c : Nat) (hc3 : c = 63 ∨ c = 43 ∨ c = 42) :
    Calls Try.prog 51 #[.pointer (some ⟨mb, 0, none⟩), .agg #[.int .i64 (f : Int), .int .i64 (l : Int)], .int .i32 (c : Int)] w fun e w' => e = .returned (.agg #[.int .i64 ((M.length + 1 : Nat) : Int), .int .i64 (M.length : Int)]) ∧ ∃ E', MachAt w' mb E' R (manyM M f l c) ∧ Grew w E w' E' := by
  have hlen := wt_len M
  obtain ⟨w2, hw2⟩ : ∃ w2, w2 = (w.alloc (.cells #[.int .i64 (f : Int), .int .i64 (l : Int)] 50)).alloc (.cells #[.int .i64 0, .int .i64 0] 50) := ⟨_, rfl⟩
  have k2 : Kp [] w w2 := by rw [hw2]; exact ((Kp.refl _ _).alloc _).alloc _
  have s2 : w2.heap.size = w.heap.size + 2 := by rw [hw2]; simp
  have hb2 : Cells w2 w.heap.size 50 [.int .i64 (f : Int), .int .i64 (l : Int)] := by rw [hw2]; exact (Cells.fresh w 50 _).alloc _
  have hc2 : Cells w2 (w.heap.size + 1) 50 [.int .i64 0, .int .i64 0] := by rw [hw2]; exact Cells.fresh1 w _ 50 _
  obtain ⟨gb, hgb⟩ : ∃ g, g = w.heap.size := ⟨_, rfl⟩
  obtain ⟨gc, hgc⟩ : ∃ g, g = w.heap.size + 1 := ⟨_, rfl⟩
  have h1 : MachAt w2 mb E (fun x => R x ∨ x = gc) M := h.move (Kq.of k2) hR (fun x hx => by
    rcases hx with hx | hx
    · exact .inl hx
    · exact .inr (by omega))
  have hR1 : ∀ x, (R x ∨ x = gc) → x < w2.heap.size := fun x hx => by
    rcases hx with hx | hx
    · have := hR x hx; omega
    · omega
  have hgE : ¬ E gc := fun hh => absurd (h.lt _ hh) (by omega)
  have hbE : ¬ E gb := fun hh => absurd (h.lt _ hh) (by omega)
  have q1 := add_any w2 w2 mb E _ M h1 (by omega) (Kp.refl _ _) hR1 (.slice none 0 0) [] (Own.nil _ _) (by intro g hg; cases hg)
  obtain ⟨n, hn⟩ : ∃ n, n = M.length := ⟨_, rfl⟩
  rw [← hn] at q1 hlen hl ⊢
  rw [← hgb] at hb2
  rw [← hgc] at hc2
  have hgs : gc < w2.heap.size := by omega
  have hgs' : gb < w2.heap.size := by omega
  have hgw : w.heap.size ≤ gc := by omega
  have HB := hid (And.intro hb2 (And.intro hbE hgs'))
  have HC := hid (And.intro hc2 (And.intro hgE hgs))
  have HN := hid (And.intro hn hM)
  have HM := hid (And.intro hR1 (And.intro hgw k2))
  have HW2 := hid hw2
  have HGB := hid hgb
  have HGC := hid hgc
  have hM' : n ≤ 900000 := by omega
  clear h h1 hn hR s2 hw2 k2 hb2 hc2 hgE hbE hR1 hgs hgs' hgw hM hlen
  have hc3 := hc3
  rcases hc3 with rfl | rfl | rfl
  · clear hc3
    go_enter Try.func51, Try.ntmps51
    go_upto_region 1 with fail
    rw [← HW2.out]
    try rw [← HGC.out]
    try rw [← HGB.out]
    clear HW2 HGC HGB hgb hgc
    go_wp2_with fail
    (with_reducible refine q1.mono ?_)
    clear q1
    rintro e w3 ⟨rfl, E1, m1, g1⟩
    have hb3 := g1.kq.cells HB.out.1 HB.out.2.1
    have hc3 := g1.kq.cells HC.out.1 HC.out.2.1
    have nb3 := g1.out HB.out.2.2 HB.out.2.1
    have nc3 := g1.out HC.out.2.2 HC.out.2.1
    have hR3 : ∀ x, (R x ∨ x = gc) → x < w3.heap.size := fun x hx => Nat.lt_of_lt_of_le (HM.out.1 x hx) g1.kq.size
    obtain ⟨w4, hw4⟩ : ∃ w4, w4 = w3.alloc (.cells #[.int .i64 (f : Int)] 3) := ⟨_, rfl⟩
    have k4 : Kp [] w3 w4 := by rw [hw4]; exact (Kp.refl _ _).alloc _
    have c4 : Cells w4 w3.heap.size 3 [.int .i64 (f : Int)] := by rw [hw4]; exact Cells.fresh w3 3 _
    have hl1 : (M ++ [(⟨none, none, []⟩ : St)]).length = n + 1 := by rw [List.length_append, ← HN.out.1, List.length_singleton]
    have q2 := add_any w3 w4 mb E1 _ _ m1 (by rw [hl1]; omega) k4 hR3 (.slice (some ⟨w3.heap.size, 0, none⟩) 1 1) [f] (Own.of_cells c4 (by simp [ints])) (by intro g hg; have hg : some w3.heap.size = some g := hg; injection hg with hg; omega)
    rw [hl1, show (M ++ [(⟨none, none, []⟩ : St)]) ++ [(⟨none, none, [f]⟩ : St)] = M ++ [⟨none, none, []⟩, ⟨none, none, [f]⟩] by simp] at q2
    have b0 := hb3.cell 0
    have b0' := fun o => ((Kp.refl [] w3).alloc o).cell b0 (by simp)
    simp only [List.getElem?_cons_zero] at b0 b0'
    have HW4 := hid hw4
    have H3 := hid (And.intro (And.intro hb3 nb3) (And.intro (And.intro hc3 nc3) (And.intro hR3 g1)))
    clear hb3 hc3 nb3 nc3 hR3 g1 m1 hw4 k4 c4 hl1
    go_upto_region 2 with fail
    go_wp2_with (rw [← HW4.out])
    first | rw [← HW4.out] | skip
    (with_reducible refine q2.mono ?_)
    clear q2 HW4 b0 b0'
    rintro e w5 ⟨rfl, E2, m2, g2⟩
    have hb5 := g2.kq.cells H3.out.1.1 H3.out.1.2
    have hc5 := g2.kq.cells H3.out.2.1.1 H3.out.2.1.2
    have nb5 := g2.out H3.out.1.1.lt H3.out.1.2
    have nc5 := g2.out H3.out.2.1.1.lt H3.out.2.1.2
    have hR5 : ∀ x, (R x ∨ x = gc) → x < w5.heap.size := fun x hx => Nat.lt_of_lt_of_le (H3.out.2.2.1 x hx) g2.kq.size
    have g02 := H3.out.2.2.2.trans g2
    have wt0 : wt (M ++ [(⟨none, none, []⟩ : St), ⟨none, none, [f]⟩]) ≤ 900003 := by first | (rw [wt_append]; exact Nat.add_le_add_right HN.out.2 3) | exact Nat.le_trans (goTo_wt _ _ _) (Nat.succ_le_succ wt-1)
    have t0 := toM_any w5 mb E2 _ _ m2 (Nat.le_trans wt0 (by decide)) hR5 (l) n (by simp only [List.length_append, List.length_cons, List.length_nil]; have := HN.out.1; omega )
    have b0 := hb5.cell 0
    have b1 := hb5.cell 1
    simp only [List.getElem?_cons_zero, List.getElem?_cons_succ] at b0 b1
    have H5 := hid (And.intro (And.intro hb5 nb5) (And.intro (And.intro hc5 nc5) (And.intro hR5 g02)))
    clear hb5 nb5 hc5 nc5 hR5 g02 m2 g2
    have HT0 := hid wt0
    clear wt0
    go_upto_region 3 with fail
    go_wp2_with fail
    (with_reducible refine t0.mono ?_)
    clear t0 b0 b1
    have wt0 := HT0.out
    rintro e w6 ⟨rfl, E3, n0, d0⟩
    have hb6 := d0.kq.cells H5.out.1.1 H5.out.1.2
    have hc6 := d0.kq.cells H5.out.2.1.1 H5.out.2.1.2
    have nb6 := d0.out H5.out.1.1.lt H5.out.1.2
    have nc6 := d0.out H5.out.2.1.1.lt H5.out.2.1.2
    have hR6 : ∀ x, (R x ∨ x = gc) → x < w6.heap.size := fun x hx => Nat.lt_of_lt_of_le (H5.out.2.2.1 x hx) d0.kq.size
    have e0 := H5.out.2.2.2.trans d0
    clear d0
    have wt1 : wt (goTo (M ++ [(⟨none, none, []⟩ : St), ⟨none, none, [f]⟩]) (l) n) ≤ 900004 := by first | (rw [wt_append]; exact Nat.add_le_add_right HN.out.2 3) | exact Nat.le_trans (goTo_wt _ _ _) (Nat.succ_le_succ wt0)
    have t1 := toM_any w6 mb E3 _ _ n0 (Nat.le_trans wt1 (by decide)) hR6 (n + 1) n (by simp only [goTo_len, List.length_append, List.length_cons, List.length_nil]; have := HN.out.1; omega )
    rw [show ((n + 1 : Nat) : Int) = (n : Int) + 1 from rfl] at t1
    have b0 := hb6.cell 0
    have b1 := hb6.cell 1
    simp only [List.getElem?_cons_zero, List.getElem?_cons_succ] at b0 b1
    have H6 := hid (And.intro (And.intro hb6 nb6) (And.intro (And.intro hc6 nc6) (And.intro hR6 e0)))
    clear hb6 nb6 hc6 nc6 hR6 e0 n0 
    have HT1 := hid wt1
    clear wt1
    go_upto_region 7 with fail
    go_wp2_with fail
    (with_reducible refine t1.mono ?_)
    clear t1 b0 b1
    have wt1 := HT1.out
    rintro e w7 ⟨rfl, E4, n1, d1⟩
    have hb7 := d1.kq.cells H6.out.1.1 H6.out.1.2
    have hc7 := d1.kq.cells H6.out.2.1.1 H6.out.2.1.2
    have nb7 := d1.out H6.out.1.1.lt H6.out.1.2
    have nc7 := d1.out H6.out.2.1.1.lt H6.out.2.1.2
    have hR7 : ∀ x, (R x ∨ x = gc) → x < w7.heap.size := fun x hx => Nat.lt_of_lt_of_le (H6.out.2.2.1 x hx) d1.kq.size
    have e1 := H6.out.2.2.2.trans d1
    clear d1
    obtain ⟨w20, hw20⟩ : ∃ w20, w20 = (w7.setCell ⟨gc, 0, none⟩ (.int .i64 ((n : Int) + 1))).setCell ⟨gc, 1, none⟩ (.int .i64 (n : Int)) := ⟨_, rfl⟩
    have k20 : Kp [gc] w7 w20 := by rw [hw20]; exact ((Kp.refl _ _).setCell (fun _ => by simp) _).setCell (fun _ => by simp) _
    have c20 : Cells w20 gc 50 [.int .i64 ((n : Int) + 1), .int .i64 (n : Int)] := by rw [hw20]; exact (hc7.put 0 _).put 1 _
    have kq20 : Kq (fun x => R x ∨ x = gc) w7 w20 := ⟨[gc], fun x hx => .inr (List.mem_singleton.1 hx), k20⟩
    have m20 : MachAt w20 mb E4 R _ := (n1.move kq20 hR7 (fun x hx => .inl hx)).move (Kq.refl _ _) (fun x hx => Nat.lt_of_lt_of_le (hR7 x hx) k20.size) (fun x hx => .inl (.inl hx))
    have g20 : Grew w E w20 E4 := by
      have g0 := Grew.after HM.out.2.2 e1
      obtain ⟨S, hS, kk⟩ := g0.kq
      exact ⟨g0.own, S, hS, kk.fresh k20 HM.out.2.1⟩
    have hm : (goTo (goTo (M ++ [(⟨none, none, []⟩ : St), ⟨none, none, [f]⟩]) (l) n) (n + 1) n) = manyM M f l 63 := by unfold manyM; simp [← HN.out.1]
    rw [hm] at m20
    have HE := hid (And.intro m20 g20)
    have HC6 := hid c20
    have HY := hid hw20
    have y0 := hc7.cell 0
    have y1 := hc7.cell 1
    have f0 := hc7.free 0
    have f1 := hc7.free 1
    simp only [List.getElem?_cons_zero, List.getElem?_cons_succ] at y0 y1
    clear m20 g20 hm c20 kq20 k20 hw20 hb7 nb7 hc7 nc7 hR7 e1 n1 wt1
    go_wp2_with fail
    rw [← HY.out]
    exact bodyPost_ret (results_cell_row rfl _ _ gc 50 _ _ _ rfl HC6.out Try.underlying50 rfl (by kernel_rfl)) rfl ⟨rfl, E4, HE.out⟩
  · clear hc3
    go_enter Try.func51, Try.ntmps51
    go_upto_region 1 with fail
    rw [← HW2.out]
    try rw [← HGC.out]
    try rw [← HGB.out]
    clear HW2 HGC HGB hgb hgc
    go_wp2_with fail
    (with_reducible refine q1.mono ?_)
    clear q1
    rintro e w3 ⟨rfl, E1, m1, g1⟩
    have hb3 := g1.kq.cells HB.out.1 HB.out.2.1
    have hc3 := g1.kq.cells HC.out.1 HC.out.2.1
    have nb3 := g1.out HB.out.2.2 HB.out.2.1
    have nc3 := g1.out HC.out.2.2 HC.out.2.1
    have hR3 : ∀ x, (R x ∨ x = gc) → x < w3.heap.size := fun x hx => Nat.lt_of_lt_of_le (HM.out.1 x hx) g1.kq.size
    obtain ⟨w4, hw4⟩ : ∃ w4, w4 = w3.alloc (.cells #[.int .i64 (f : Int)] 3) := ⟨_, rfl⟩
    have k4 : Kp [] w3 w4 := by rw [hw4]; exact (Kp.refl _ _).alloc _
    have c4 : Cells w4 w3.heap.size 3 [.int .i64 (f : Int)] := by rw [hw4]; exact Cells.fresh w3 3 _
    have hl1 : (M ++ [(⟨none, none, []⟩ : St)]).length = n + 1 := by rw [List.length_append, ← HN.out.1, List.length_singleton]
    have q2 := add_any w3 w4 mb E1 _ _ m1 (by rw [hl1]; omega) k4 hR3 (.slice (some ⟨w3.heap.size, 0, none⟩) 1 1) [f] (Own.of_cells c4 (by simp [ints])) (by intro g hg; have hg : some w3.heap.size = some g := hg; injection hg with hg; omega)
    rw [hl1, show (M ++ [(⟨none, none, []⟩ : St)]) ++ [(⟨none, none, [f]⟩ : St)] = M ++ [⟨none, none, []⟩, ⟨none, none, [f]⟩] by simp] at q2
    have b0 := hb3.cell 0
    have b0' := fun o => ((Kp.refl [] w3).alloc o).cell b0 (by simp)
    simp only [List.getElem?_cons_zero] at b0 b0'
    have HW4 := hid hw4
    have H3 := hid (And.intro (And.intro hb3 nb3) (And.intro (And.intro hc3 nc3) (And.intro hR3 g1)))
    clear hb3 hc3 nb3 nc3 hR3 g1 m1 hw4 k4 c4 hl1
    go_upto_region 2 with fail
    go_wp2_with (rw [← HW4.out])
    first | rw [← HW4.out] | skip
    (with_reducible refine q2.mono ?_)
    clear q2 HW4 b0 b0'
    rintro e w5 ⟨rfl, E2, m2, g2⟩
    have hb5 := g2.kq.cells H3.out.1.1 H3.out.1.2
    have hc5 := g2.kq.cells H3.out.2.1.1 H3.out.2.1.2
    have nb5 := g2.out H3.out.1.1.lt H3.out.1.2
    have nc5 := g2.out H3.out.2.1.1.lt H3.out.2.1.2
    have hR5 : ∀ x, (R x ∨ x = gc) → x < w5.heap.size := fun x hx => Nat.lt_of_lt_of_le (H3.out.2.2.1 x hx) g2.kq.size
    have g02 := H3.out.2.2.2.trans g2
    have wt0 : wt (M ++ [(⟨none, none, []⟩ : St), ⟨none, none, [f]⟩]) ≤ 900003 := by first | (rw [wt_append]; exact Nat.add_le_add_right HN.out.2 3) | exact Nat.le_trans (goTo_wt _ _ _) (Nat.succ_le_succ wt-1)
    have t0 := toM_any w5 mb E2 _ _ m2 (Nat.le_trans wt0 (by decide)) hR5 (l) n (by simp only [List.length_append, List.length_cons, List.length_nil]; have := HN.out.1; omega )
    have b0 := hb5.cell 0
    have b1 := hb5.cell 1
    simp only [List.getElem?_cons_zero, List.getElem?_cons_succ] at b0 b1
    have H5 := hid (And.intro (And.intro hb5 nb5) (And.intro (And.intro hc5 nc5) (And.intro hR5 g02)))
    clear hb5 nb5 hc5 nc5 hR5 g02 m2 g2
    have HT0 := hid wt0
    clear wt0
    go_upto_region 3 with fail
    go_wp2_with fail
    (with_reducible refine t0.mono ?_)
    clear t0 b0 b1
    have wt0 := HT0.out
    rintro e w6 ⟨rfl, E3, n0, d0⟩
    have hb6 := d0.kq.cells H5.out.1.1 H5.out.1.2
    have hc6 := d0.kq.cells H5.out.2.1.1 H5.out.2.1.2
    have nb6 := d0.out H5.out.1.1.lt H5.out.1.2
    have nc6 := d0.out H5.out.2.1.1.lt H5.out.2.1.2
    have hR6 : ∀ x, (R x ∨ x = gc) → x < w6.heap.size := fun x hx => Nat.lt_of_lt_of_le (H5.out.2.2.1 x hx) d0.kq.size
    have e0 := H5.out.2.2.2.trans d0
    clear d0
    have wt1 : wt (goTo (M ++ [(⟨none, none, []⟩ : St), ⟨none, none, [f]⟩]) (l) n) ≤ 900004 := by first | (rw [wt_append]; exact Nat.add_le_add_right HN.out.2 3) | exact Nat.le_trans (goTo_wt _ _ _) (Nat.succ_le_succ wt0)
    have t1 := toM_any w6 mb E3 _ _ n0 (Nat.le_trans wt1 (by decide)) hR6 (l) f (by simp only [goTo_len, List.length_append, List.length_cons, List.length_nil]; have := HN.out.1; omega )
    have b0 := hb6.cell 0
    have b1 := hb6.cell 1
    simp only [List.getElem?_cons_zero, List.getElem?_cons_succ] at b0 b1
    have H6 := hid (And.intro (And.intro hb6 nb6) (And.intro (And.intro hc6 nc6) (And.intro hR6 e0)))
    clear hb6 nb6 hc6 nc6 hR6 e0 n0 
    have HT1 := hid wt1
    clear wt1
    go_upto_region 5 with fail
    go_wp2_with fail
    (with_reducible refine t1.mono ?_)
    clear t1 b0 b1
    have wt1 := HT1.out
    rintro e w7 ⟨rfl, E4, n1, d1⟩
    have hb7 := d1.kq.cells H6.out.1.1 H6.out.1.2
    have hc7 := d1.kq.cells H6.out.2.1.1 H6.out.2.1.2
    have nb7 := d1.out H6.out.1.1.lt H6.out.1.2
    have nc7 := d1.out H6.out.2.1.1.lt H6.out.2.1.2
    have hR7 : ∀ x, (R x ∨ x = gc) → x < w7.heap.size := fun x hx => Nat.lt_of_lt_of_le (H6.out.2.2.1 x hx) d1.kq.size
    have e1 := H6.out.2.2.2.trans d1
    clear d1
    obtain ⟨w20, hw20⟩ : ∃ w20, w20 = (w7.setCell ⟨gc, 0, none⟩ (.int .i64 ((n : Int) + 1))).setCell ⟨gc, 1, none⟩ (.int .i64 (n : Int)) := ⟨_, rfl⟩
    have k20 : Kp [gc] w7 w20 := by rw [hw20]; exact ((Kp.refl _ _).setCell (fun _ => by simp) _).setCell (fun _ => by simp) _
    have c20 : Cells w20 gc 50 [.int .i64 ((n : Int) + 1), .int .i64 (n : Int)] := by rw [hw20]; exact (hc7.put 0 _).put 1 _
    have kq20 : Kq (fun x => R x ∨ x = gc) w7 w20 := ⟨[gc], fun x hx => .inr (List.mem_singleton.1 hx), k20⟩
    have m20 : MachAt w20 mb E4 R _ := (n1.move kq20 hR7 (fun x hx => .inl hx)).move (Kq.refl _ _) (fun x hx => Nat.lt_of_lt_of_le (hR7 x hx) k20.size) (fun x hx => .inl (.inl hx))
    have g20 : Grew w E w20 E4 := by
      have g0 := Grew.after HM.out.2.2 e1
      obtain ⟨S, hS, kk⟩ := g0.kq
      exact ⟨g0.own, S, hS, kk.fresh k20 HM.out.2.1⟩
    have hm : (goTo (goTo (M ++ [(⟨none, none, []⟩ : St), ⟨none, none, [f]⟩]) (l) n) (l) f) = manyM M f l 43 := by unfold manyM; simp [← HN.out.1]
    rw [hm] at m20
    have HE := hid (And.intro m20 g20)
    have HC6 := hid c20
    have HY := hid hw20
    have y0 := hc7.cell 0
    have y1 := hc7.cell 1
    have f0 := hc7.free 0
    have f1 := hc7.free 1
    simp only [List.getElem?_cons_zero, List.getElem?_cons_succ] at y0 y1
    clear m20 g20 hm c20 kq20 k20 hw20 hb7 nb7 hc7 nc7 hR7 e1 n1 wt1
    go_wp2_with fail
    rw [← HY.out]
    exact bodyPost_ret (results_cell_row rfl _ _ gc 50 _ _ _ rfl HC6.out Try.underlying50 rfl (by kernel_rfl)) rfl ⟨rfl, E4, HE.out⟩
  · clear hc3
    go_enter Try.func51, Try.ntmps51
    go_upto_region 1 with fail
    rw [← HW2.out]
    try rw [← HGC.out]
    try rw [← HGB.out]
    clear HW2 HGC HGB hgb hgc
    go_wp2_with fail
    (with_reducible refine q1.mono ?_)
    clear q1
    rintro e w3 ⟨rfl, E1, m1, g1⟩
    have hb3 := g1.kq.cells HB.out.1 HB.out.2.1
    have hc3 := g1.kq.cells HC.out.1 HC.out.2.1
    have nb3 := g1.out HB.out.2.2 HB.out.2.1
    have nc3 := g1.out HC.out.2.2 HC.out.2.1
    have hR3 : ∀ x, (R x ∨ x = gc) → x < w3.heap.size := fun x hx => Nat.lt_of_lt_of_le (HM.out.1 x hx) g1.kq.size
    obtain ⟨w4, hw4⟩ : ∃ w4, w4 = w3.alloc (.cells #[.int .i64 (f : Int)] 3) := ⟨_, rfl⟩
    have k4 : Kp [] w3 w4 := by rw [hw4]; exact (Kp.refl _ _).alloc _
    have c4 : Cells w4 w3.heap.size 3 [.int .i64 (f : Int)] := by rw [hw4]; exact Cells.fresh w3 3 _
    have hl1 : (M ++ [(⟨none, none, []⟩ : St)]).length = n + 1 := by rw [List.length_append, ← HN.out.1, List.length_singleton]
    have q2 := add_any w3 w4 mb E1 _ _ m1 (by rw [hl1]; omega) k4 hR3 (.slice (some ⟨w3.heap.size, 0, none⟩) 1 1) [f] (Own.of_cells c4 (by simp [ints])) (by intro g hg; have hg : some w3.heap.size = some g := hg; injection hg with hg; omega)
    rw [hl1, show (M ++ [(⟨none, none, []⟩ : St)]) ++ [(⟨none, none, [f]⟩ : St)] = M ++ [⟨none, none, []⟩, ⟨none, none, [f]⟩] by simp] at q2
    have b0 := hb3.cell 0
    have b0' := fun o => ((Kp.refl [] w3).alloc o).cell b0 (by simp)
    simp only [List.getElem?_cons_zero] at b0 b0'
    have HW4 := hid hw4
    have H3 := hid (And.intro (And.intro hb3 nb3) (And.intro (And.intro hc3 nc3) (And.intro hR3 g1)))
    clear hb3 hc3 nb3 nc3 hR3 g1 m1 hw4 k4 c4 hl1
    go_upto_region 2 with fail
    go_wp2_with (rw [← HW4.out])
    first | rw [← HW4.out] | skip
    (with_reducible refine q2.mono ?_)
    clear q2 HW4 b0 b0'
    rintro e w5 ⟨rfl, E2, m2, g2⟩
    have hb5 := g2.kq.cells H3.out.1.1 H3.out.1.2
    have hc5 := g2.kq.cells H3.out.2.1.1 H3.out.2.1.2
    have nb5 := g2.out H3.out.1.1.lt H3.out.1.2
    have nc5 := g2.out H3.out.2.1.1.lt H3.out.2.1.2
    have hR5 : ∀ x, (R x ∨ x = gc) → x < w5.heap.size := fun x hx => Nat.lt_of_lt_of_le (H3.out.2.2.1 x hx) g2.kq.size
    have g02 := H3.out.2.2.2.trans g2
    have wt0 : wt (M ++ [(⟨none, none, []⟩ : St), ⟨none, none, [f]⟩]) ≤ 900003 := by first | (rw [wt_append]; exact Nat.add_le_add_right HN.out.2 3) | exact Nat.le_trans (goTo_wt _ _ _) (Nat.succ_le_succ wt-1)
    have t0 := toM_any w5 mb E2 _ _ m2 (Nat.le_trans wt0 (by decide)) hR5 (l) n (by simp only [List.length_append, List.length_cons, List.length_nil]; have := HN.out.1; omega )
    have b0 := hb5.cell 0
    have b1 := hb5.cell 1
    simp only [List.getElem?_cons_zero, List.getElem?_cons_succ] at b0 b1
    have H5 := hid (And.intro (And.intro hb5 nb5) (And.intro (And.intro hc5 nc5) (And.intro hR5 g02)))
    clear hb5 nb5 hc5 nc5 hR5 g02 m2 g2
    have HT0 := hid wt0
    clear wt0
    go_upto_region 3 with fail
    go_wp2_with fail
    (with_reducible refine t0.mono ?_)
    clear t0 b0 b1
    have wt0 := HT0.out
    rintro e w6 ⟨rfl, E3, n0, d0⟩
    have hb6 := d0.kq.cells H5.out.1.1 H5.out.1.2
    have hc6 := d0.kq.cells H5.out.2.1.1 H5.out.2.1.2
    have nb6 := d0.out H5.out.1.1.lt H5.out.1.2
    have nc6 := d0.out H5.out.2.1.1.lt H5.out.2.1.2
    have hR6 : ∀ x, (R x ∨ x = gc) → x < w6.heap.size := fun x hx => Nat.lt_of_lt_of_le (H5.out.2.2.1 x hx) d0.kq.size
    have e0 := H5.out.2.2.2.trans d0
    clear d0
    have wt1 : wt (goTo (M ++ [(⟨none, none, []⟩ : St), ⟨none, none, [f]⟩]) (l) n) ≤ 900004 := by first | (rw [wt_append]; exact Nat.add_le_add_right HN.out.2 3) | exact Nat.le_trans (goTo_wt _ _ _) (Nat.succ_le_succ wt0)
    have t1 := toM_any w6 mb E3 _ _ n0 (Nat.le_trans wt1 (by decide)) hR6 (l) f (by simp only [goTo_len, List.length_append, List.length_cons, List.length_nil]; have := HN.out.1; omega )
    have b0 := hb6.cell 0
    have b1 := hb6.cell 1
    simp only [List.getElem?_cons_zero, List.getElem?_cons_succ] at b0 b1
    have H6 := hid (And.intro (And.intro hb6 nb6) (And.intro (And.intro hc6 nc6) (And.intro hR6 e0)))
    clear hb6 nb6 hc6 nc6 hR6 e0 n0 
    have HT1 := hid wt1
    clear wt1
    go_upto_region 5 with fail
    go_wp2_with fail
    (with_reducible refine t1.mono ?_)
    clear t1 b0 b1
    have wt1 := HT1.out
    rintro e w7 ⟨rfl, E4, n1, d1⟩
    have hb7 := d1.kq.cells H6.out.1.1 H6.out.1.2
    have hc7 := d1.kq.cells H6.out.2.1.1 H6.out.2.1.2
    have nb7 := d1.out H6.out.1.1.lt H6.out.1.2
    have nc7 := d1.out H6.out.2.1.1.lt H6.out.2.1.2
    have hR7 : ∀ x, (R x ∨ x = gc) → x < w7.heap.size := fun x hx => Nat.lt_of_lt_of_le (H6.out.2.2.1 x hx) d1.kq.size
    have e1 := H6.out.2.2.2.trans d1
    clear d1
    have wt2 : wt (goTo (goTo (M ++ [(⟨none, none, []⟩ : St), ⟨none, none, [f]⟩]) (l) n) (l) f) ≤ 900005 := by first | (rw [wt_append]; exact Nat.add_le_add_right HN.out.2 3) | exact Nat.le_trans (goTo_wt _ _ _) (Nat.succ_le_succ wt1)
    have t2 := toM_any w7 mb E4 _ _ n1 (Nat.le_trans wt2 (by decide)) hR7 (n + 1) n (by simp only [goTo_len, List.length_append, List.length_cons, List.length_nil]; have := HN.out.1; omega )
    rw [show ((n + 1 : Nat) : Int) = (n : Int) + 1 from rfl] at t2
    have b0 := hb7.cell 0
    have b1 := hb7.cell 1
    simp only [List.getElem?_cons_zero, List.getElem?_cons_succ] at b0 b1
    have H7 := hid (And.intro (And.intro hb7 nb7) (And.intro (And.intro hc7 nc7) (And.intro hR7 e1)))
    clear hb7 nb7 hc7 nc7 hR7 e1 n1 
    have HT2 := hid wt2
    clear wt2
    go_upto_region 7 with fail
    go_wp2_with fail
    (with_reducible refine t2.mono ?_)
    clear t2 b0 b1
    have wt2 := HT2.out
    rintro e w8 ⟨rfl, E5, n2, d2⟩
    have hb8 := d2.kq.cells H7.out.1.1 H7.out.1.2
    have hc8 := d2.kq.cells H7.out.2.1.1 H7.out.2.1.2
    have nb8 := d2.out H7.out.1.1.lt H7.out.1.2
    have nc8 := d2.out H7.out.2.1.1.lt H7.out.2.1.2
    have hR8 : ∀ x, (R x ∨ x = gc) → x < w8.heap.size := fun x hx => Nat.lt_of_lt_of_le (H7.out.2.2.1 x hx) d2.kq.size
    have e2 := H7.out.2.2.2.trans d2
    clear d2
    obtain ⟨w20, hw20⟩ : ∃ w20, w20 = (w8.setCell ⟨gc, 0, none⟩ (.int .i64 ((n : Int) + 1))).setCell ⟨gc, 1, none⟩ (.int .i64 (n : Int)) := ⟨_, rfl⟩
    have k20 : Kp [gc] w8 w20 := by rw [hw20]; exact ((Kp.refl _ _).setCell (fun _ => by simp) _).setCell (fun _ => by simp) _
    have c20 : Cells w20 gc 50 [.int .i64 ((n : Int) + 1), .int .i64 (n : Int)] := by rw [hw20]; exact (hc8.put 0 _).put 1 _
    have kq20 : Kq (fun x => R x ∨ x = gc) w8 w20 := ⟨[gc], fun x hx => .inr (List.mem_singleton.1 hx), k20⟩
    have m20 : MachAt w20 mb E5 R _ := (n2.move kq20 hR8 (fun x hx => .inl hx)).move (Kq.refl _ _) (fun x hx => Nat.lt_of_lt_of_le (hR8 x hx) k20.size) (fun x hx => .inl (.inl hx))
    have g20 : Grew w E w20 E5 := by
      have g0 := Grew.after HM.out.2.2 e2
      obtain ⟨S, hS, kk⟩ := g0.kq
      exact ⟨g0.own, S, hS, kk.fresh k20 HM.out.2.1⟩
    have hm : (goTo (goTo (goTo (M ++ [(⟨none, none, []⟩ : St), ⟨none, none, [f]⟩]) (l) n) (l) f) (n + 1) n) = manyM M f l 42 := by unfold manyM; simp [← HN.out.1]
    rw [hm] at m20
    have HE := hid (And.intro m20 g20)
    have HC6 := hid c20
    have HY := hid hw20
    have y0 := hc8.cell 0
    have y1 := hc8.cell 1
    have f0 := hc8.free 0
    have f1 := hc8.free 1
    simp only [List.getElem?_cons_zero, List.getElem?_cons_succ] at y0 y1
    clear m20 g20 hm c20 kq20 k20 hw20 hb8 nb8 hc8 nc8 hR8 e2 n2 wt2
    go_wp2_with fail
    rw [← HY.out]
    exact bodyPost_ret (results_cell_row rfl _ _ gc 50 _ _ _ rfl HC6.out Try.underlying50 rfl (by kernel_rfl)) rfl ⟨rfl, E5, HE.out⟩
end Go.Proofs.Ytaaikjedagnjbaa
