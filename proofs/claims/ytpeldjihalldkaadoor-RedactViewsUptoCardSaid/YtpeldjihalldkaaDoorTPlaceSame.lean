/- Rows of places: the document's Same. -/
import Derived.Test.YtpeldjihalldkaaDoorTHoles
import Derived.Test.YtpeldjihalldkaaDoorRG
namespace Go.Proofs.YtpeldjihalldkaaDoor
open Go Go.RowKit Go.Lib

theorem step_neq (a a' : Int) (l l' : Txt) (z z' : Int) (w : World) : (binOp .neq 42 (.agg #[.int .i64 a, .string ⟨l.toArray⟩, .int .i64 z]) (.agg #[.int .i64 a', .string ⟨l'.toArray⟩, .int .i64 z'])).run Tryd.prog w = .ok (.bool (!decide (a = a' ∧ l = l' ∧ z = z'))) w := by
  by_cases h1 : a = a'
  · subst h1
    by_cases h2 : l = l'
    · subst h2
      simp [go_sem]
      by_cases h3 : z = z' <;> simp [h3]
    · simp [go_sem, h2]
  · simp [go_sem, h1]
attribute [go_sem ↓ high] step_neq
theorem addr_at (g i : Nat) : (⟨g, 0, none⟩ : Addr).add i = ⟨g, i, none⟩ := by
  rcases Nat.eq_zero_or_pos i with h | h
  · subst h; rfl
  · simp [Addr.add, Nat.ne_of_gt h]
/-- A slice of steps, by its cells. -/
theorem StepsAt.cells {w : World} {T : Nat → Prop} {v : Value} {p : List Stp} (h : StepsAt w T v p) : ∃ A c, v = .slice A p.length c ∧ p.length ≤ c ∧ c ≤ 9223372036854775807 ∧
    ∀ (i : Nat) s, p[i]? = some s → ∃ g, A = some ⟨g, 0, none⟩ ∧ w.cell? ⟨g, 3 * i, none⟩ = some (.int .i64 (s.1 : Int)) ∧ w.cell? ⟨g, 3 * i + 1, none⟩ = some (.string ⟨s.2.1.toArray⟩) ∧ w.cell? ⟨g, 3 * i + 2, none⟩ = some (.int .i64 (s.2.2 : Int)) := by
  obtain ⟨A, c, rfl, h1, h2, h3, h4⟩ := h.ex
  refine ⟨A, c, rfl, h1, h2, fun i s hs => ?_⟩
  have hc := stCs_at p i s hs
  obtain ⟨ad, e, t0⟩ := h3 _ _ (hc 0 _ rfl)
  obtain ⟨e4, -⟩ := h4 ad e
  obtain ⟨g, of, pr⟩ := ad
  injection e4 with _ e5 e6
  subst e5 e6 e
  obtain ⟨_, e1, t1⟩ := h3 _ _ (hc 1 _ rfl)
  injection e1 with e1
  subst e1
  obtain ⟨_, e1, t2⟩ := h3 _ _ (hc 2 _ rfl)
  injection e1 with e1
  subst e1
  rw [addr_at, Nat.mul_comm i 3] at t0 t1 t2
  exact ⟨g, rfl, t0, t1, t2⟩
set_option maxHeartbeats 6400000 in
theorem psame_any {w : World} {T T' : Nat → Prop} {v v' : Value} {l l' : List Stp} (h1 : StepsAt w T v l) (h2 : StepsAt w T' v' l') :
    Calls Tryd.prog 39 #[v, v'] w fun e w' => e = .returned (.bool (decide (l = l'))) ∧ Kp [] w w' := by
  obtain ⟨A, c, rfl, l1, l2, c1⟩ := h1.cells
  obtain ⟨B, d, rfl, m1, m2, c2⟩ := h2.cells
  obtain ⟨n, hn⟩ : ∃ n, n = l.length := ⟨_, rfl⟩
  obtain ⟨m, hm⟩ : ∃ m, m = l'.length := ⟨_, rfl⟩
  rw [← hn] at l1 ⊢
  rw [← hm] at m1 ⊢
  obtain ⟨b, hb⟩ : ∃ b, b = decide (l = l') := ⟨_, rfl⟩
  rw [← hb]
  have HB := hid (And.intro hb (And.intro hn (And.intro hm (And.intro c1 c2))))
  clear hn hm hb h1 h2 c1 c2
  by_cases hnm : n = m
  · subst hnm
    go_enter Tryd.func39, Tryd.ntmps39
    go_wp2_with fail
    go_loopw [5] (fun vi wr => ∃ j : Nat, j ≤ n ∧ vi = .int .i64 (j : Int) ∧ Kp [] w wr ∧ l.take j = l'.take j) (fun vi _ => n - (RowKit.intOf vi).toNat)
    case atStart => exact ⟨0, Nat.zero_le _, rfl, Kp.refl _ _, rfl⟩
    case round =>
      obtain ⟨j, hj, rfl, hk, ht⟩ := hrel
      obtain ⟨hb, hn, hm, c1, c2⟩ := HB.out
      by_cases hlt : j < n
      · obtain ⟨x, hx⟩ : ∃ x, l[j]? = some x := ⟨_, List.getElem?_eq_getElem (by omega)⟩
        obtain ⟨y, hy⟩ : ∃ y, l'[j]? = some y := ⟨_, List.getElem?_eq_getElem (by omega)⟩
        obtain ⟨x1, x2, x3⟩ := x
        obtain ⟨y1, y2, y3⟩ := y
        obtain ⟨g, rfl, a0, a1, a2⟩ := c1 j _ hx
        obtain ⟨g', rfl, b0, b1, b2⟩ := c2 j _ hy
        replace a0 := hk.cell a0 (by simp); replace a1 := hk.cell a1 (by simp); replace a2 := hk.cell a2 (by simp)
        replace b0 := hk.cell b0 (by simp); replace b1 := hk.cell b1 (by simp); replace b2 := hk.cell b2 (by simp)
        have e3 : j * 3 = 3 * j := Nat.mul_comm _ _
        have jn : (j : Int) < (n : Int) := by omega
        have z1 : decide ((j : Int) < (n : Int)) = true := decide_eq_true jn
        have z1n : decide (j < n) = true := decide_eq_true hlt
        obtain ⟨bs, hbs⟩ : ∃ b, b = decide ((x1 : Int) = (y1 : Int) ∧ x2 = y2 ∧ (x3 : Int) = (y3 : Int)) := ⟨_, rfl⟩
        have z2 := hbs.symm
        have hxy : bs = true → ((x1, x2, x3) : Stp) = (y1, y2, y3) := by
          intro h
          rw [hbs, decide_eq_true_eq] at h
          obtain ⟨p, q, r⟩ := h
          rw [Int.ofNat_inj.1 p, q, Int.ofNat_inj.1 r]
        have hxn : bs = false → ((x1, x2, x3) : Stp) ≠ (y1, y2, y3) := by
          intro h e
          rw [hbs, decide_eq_false_iff_not] at h
          injection e with p e
          injection e with q r
          exact h ⟨by rw [p], q, by rw [r]⟩
        have HR := hid (And.intro hb (And.intro hx (And.intro hy (And.intro ht (And.intro hk (And.intro hxy hxn))))))
        clear hb hn hm c1 c2 hx hy ht hk hbs hxy hxn
        cases bs with
        | true =>
          go_wp2_with fail
          go_quiet (fail)
          generalize nq = n1 at *
          go_wp2_with fail
          go_roundw
          case rel =>
            obtain ⟨hb, hx, hy, ht, hk, hxy, hxn⟩ := HR.out
            exact ⟨j + 1, by omega, by go_num, hk.nil ((Kp.refl _ _).drewN n1), by rw [List.take_add_one, List.take_add_one, hx, hy, ht, show ((x1, x2, x3) : Stp) = (y1, y2, y3) by first | exact hxy rfl | exact hxy trivial]⟩
          case measure => simp [RowKit.intOf]; omega
        | false =>
          have hbf : b = false := by
            obtain ⟨hb, hx, hy, ht, hk, hxy, hxn⟩ := HR.out
            rw [hb, decide_eq_false_iff_not]
            rintro rfl
            rw [hx] at hy
            injection hy with hy
            exact hxn rfl hy
          subst hbf
          go_wp2_with fail
          go_quiet (fail)
          generalize nq = n1 at *
          go_wp2_with fail
          go_ret
          exact ⟨rfl, HR.out.2.2.2.2.1.nil ((Kp.refl _ _).drewN n1)⟩
      · have hbt : b = true := by
          rw [hb, decide_eq_true_eq]
          rw [List.take_of_length_le (by omega), List.take_of_length_le (by omega)] at ht
          exact ht
        subst hbt
        have z1 : decide ((j : Int) < (n : Int)) = false := decide_eq_false (by omega)
        have z1n : decide (j < n) = false := decide_eq_false hlt
        have HK := hid hk
        clear hb hn hm c1 c2 ht hk hlt
        go_wp2_with fail
        go_ret
        exact ⟨rfl, HK.out⟩
  · have hbf : b = false := by
      obtain ⟨hb, hn, hm, c1, c2⟩ := HB.out
      rw [hb, decide_eq_false_iff_not]
      rintro rfl
      omega
    subst hbf
    have z1 : ((n : Int) != (m : Int)) = true := bne_iff_ne.2 (by omega)
    have z1n : (n != m) = true := bne_iff_ne.2 hnm
    have z2 : ¬ (n : Int) = (m : Int) := by omega
    go_enter Tryd.func39, Tryd.ntmps39
    go_wp2_with fail
    go_ret
    exact ⟨rfl, Kp.refl _ _⟩
/-- Places in memory, by cells. -/
theorem PlacesV.cells {w : World} {v : Value} {l : List (List Stp)} (h : PlacesV w v l) : ∃ A c, v = .slice A l.length c ∧ l.length ≤ c ∧ c ≤ 9223372036854775807 ∧
    ∀ (i : Nat) p, l[i]? = some p → ∃ g s, A = some ⟨g, 0, none⟩ ∧ w.cell? ⟨g, i, none⟩ = some s ∧ StepsAt w (fun _ => True) s p := by
  obtain ⟨vs, ho, hst⟩ := h
  obtain ⟨A, c, rfl, hsp, hc, hvl, hA⟩ := ho.shape
  obtain ⟨_, _, e0, -, -, htop, -⟩ := OwnN.shape (s := 1) ho
  injection e0 with _ _ e0
  subst e0
  refine ⟨A, c, rfl, hc, htop, fun i p hp => ?_⟩
  have hil := (List.getElem?_eq_some_iff.1 hp).1
  obtain ⟨s, hs⟩ : ∃ s, vs[i]? = some s := ⟨_, List.getElem?_eq_getElem (by omega)⟩
  obtain ⟨ad, e, hcell⟩ := hsp i s hs
  obtain ⟨e4, -⟩ := hA ad e
  obtain ⟨g, of, pr⟩ := ad
  injection e4 with _ e5 e6
  subst e5 e6 e
  rw [addr_at] at hcell
  exact ⟨g, s, rfl, hcell, hst i s p hs hp⟩
set_option maxHeartbeats 6400000 in
theorem places_same {w : World} {v v' : Value} {l l' : List (List Stp)} (h1 : PlacesV w v l) (h2 : PlacesV w v' l') :
    Calls Tryd.prog 13 #[v, v'] w fun e w' => e = .returned (.bool (decide (l = l'))) ∧ Kp [] w w' := by
  obtain ⟨A, c, rfl, l1, l2, c1⟩ := h1.cells
  obtain ⟨B, d, rfl, m1, m2, c2⟩ := h2.cells
  obtain ⟨n, hn⟩ : ∃ n, n = l.length := ⟨_, rfl⟩
  obtain ⟨m, hm⟩ : ∃ m, m = l'.length := ⟨_, rfl⟩
  rw [← hn] at l1 ⊢
  rw [← hm] at m1 ⊢
  obtain ⟨b, hb⟩ : ∃ b, b = decide (l = l') := ⟨_, rfl⟩
  rw [← hb]
  have HB := hid (And.intro hb (And.intro hn (And.intro hm (And.intro c1 c2))))
  clear hn hm hb h1 h2 c1 c2
  by_cases hnm : n = m
  · subst hnm
    go_enter Tryd.func13, Tryd.ntmps13
    go_wp2_with fail
    go_loopw [5] (fun vi wr => ∃ j : Nat, j ≤ n ∧ vi = .int .i64 (j : Int) ∧ Kp [] w wr ∧ l.take j = l'.take j) (fun vi _ => n - (RowKit.intOf vi).toNat)
    case atStart => exact ⟨0, Nat.zero_le _, rfl, Kp.refl _ _, rfl⟩
    case round =>
      obtain ⟨j, hj, rfl, hk, ht⟩ := hrel
      obtain ⟨hb, hn, hm, c1, c2⟩ := HB.out
      by_cases hlt : j < n
      · obtain ⟨x, hx⟩ : ∃ x, l[j]? = some x := ⟨_, List.getElem?_eq_getElem (by omega)⟩
        obtain ⟨y, hy⟩ : ∃ y, l'[j]? = some y := ⟨_, List.getElem?_eq_getElem (by omega)⟩
        obtain ⟨g, s, rfl, a0, hs⟩ := c1 j _ hx
        obtain ⟨g', s', rfl, b0, hs'⟩ := c2 j _ hy
        replace a0 := hk.cell a0 (by simp)
        replace b0 := hk.cell b0 (by simp)
        have q := fun W (k : Kp [] wr W) => psame_any (hs.kept (hk.nil k)) (hs'.kept (hk.nil k))
        obtain ⟨A2, c2', rfl, -, -, -⟩ := hs.cells
        obtain ⟨B2, d2, rfl, -, -, -⟩ := hs'.cells
        have jn : (j : Int) < (n : Int) := by omega
        have z1 : decide ((j : Int) < (n : Int)) = true := decide_eq_true jn
        have z1n : decide (j < n) = true := decide_eq_true hlt
        obtain ⟨bs, hbs⟩ : ∃ b, b = decide (x = y) := ⟨_, rfl⟩
        simp only [← hbs] at q
        obtain ⟨nx, hnx⟩ : ∃ n, n = x.length := ⟨_, rfl⟩
        obtain ⟨ny, hny⟩ : ∃ n, n = y.length := ⟨_, rfl⟩
        rw [← hnx] at a0
        rw [← hny] at b0
        simp only [← hnx, ← hny] at q
        have HR := hid (And.intro hb (And.intro hx (And.intro hy (And.intro ht (And.intro hk hbs)))))
        clear hb hn hm c1 c2 hx hy ht hk hbs hs hs' hnx hny
        go_wp2_with fail
        refine lin_start (fun w' => w'.cell? ⟨g, j, none⟩ = some (Value.slice A2 nx c2') ∧ w'.cell? ⟨g', j, none⟩ = some (Value.slice B2 ny d2) ∧ Kp [] wr w') ((Stays.cell _ _).and ((Stays.cell _ _).and (Stays.kp _ _))) (by kernel_rfl) ⟨a0, b0, (Kp.refl _ _).drew⟩ (fun hSS hS => ?_)
        refine lin_val (i := 0) (v := ?_) rfl (by kernel_rfl) (by kernel_rfl) (by kernel_rfl) (fun _ _ _ h => h) hSS hS rfl (fun w hSw => ?_) ?_
        rotate_left
        · obtain ⟨q0, q1, q2⟩ := hSw; go_simp; first | done | with_reducible rfl
        simp only [Act.put, List.setIfInBounds_toArray, List.set_cons_zero, List.set_cons_succ]
        refine lin_val (i := 1) (v := ?_) rfl (by kernel_rfl) (by kernel_rfl) (by kernel_rfl) (fun _ _ _ h => h) hSS hS rfl (fun w hSw => ?_) ?_
        rotate_left
        · obtain ⟨q0, q1, q2⟩ := hSw; go_simp; first | done | with_reducible rfl
        simp only [Act.put, List.setIfInBounds_toArray, List.set_cons_zero, List.set_cons_succ]
        refine lin_val (i := 2) (v := ?_) rfl (by kernel_rfl) (by kernel_rfl) (by kernel_rfl) (fun _ _ _ h => h) hSS hS rfl (fun w hSw => ?_) ?_
        rotate_left
        · obtain ⟨q0, q1, q2⟩ := hSw; go_simp; first | done | with_reducible rfl
        simp only [Act.put, List.setIfInBounds_toArray, List.set_cons_zero, List.set_cons_succ]
        refine lin_val (i := 3) (v := ?_) rfl (by kernel_rfl) (by kernel_rfl) (by kernel_rfl) (fun _ _ _ h => h) hSS hS rfl (fun w hSw => ?_) ?_
        rotate_left
        · obtain ⟨q0, q1, q2⟩ := hSw; go_simp; first | done | with_reducible rfl
        simp only [Act.put, List.setIfInBounds_toArray, List.set_cons_zero, List.set_cons_succ]
        refine lin_val (i := 4) (v := ?_) rfl (by kernel_rfl) (by kernel_rfl) (by kernel_rfl) (fun _ _ _ h => h) hSS hS rfl (fun w hSw => ?_) ?_
        rotate_left
        · obtain ⟨q0, q1, q2⟩ := hSw; go_simp; first | done | with_reducible rfl
        simp only [Act.put, List.setIfInBounds_toArray, List.set_cons_zero, List.set_cons_succ]
        refine lin_val (i := 5) (v := ?_) rfl (by kernel_rfl) (by kernel_rfl) (by kernel_rfl) (fun _ _ _ h => h) hSS hS rfl (fun w hSw => ?_) ?_
        rotate_left
        · obtain ⟨q0, q1, q2⟩ := hSw; go_simp; first | done | with_reducible rfl
        simp only [Act.put, List.setIfInBounds_toArray, List.set_cons_zero, List.set_cons_succ]
        refine lin_val (i := 6) (v := ?_) rfl (by kernel_rfl) (by kernel_rfl) (by kernel_rfl) (fun _ _ _ h => h) hSS hS rfl (fun w hSw => ?_) ?_
        rotate_left
        · obtain ⟨q0, q1, q2⟩ := hSw; go_simp; first | done | with_reducible rfl
        simp only [Act.put, List.setIfInBounds_toArray, List.set_cons_zero, List.set_cons_succ]
        refine lin_val (i := 7) (v := ?_) rfl (by kernel_rfl) (by kernel_rfl) (by kernel_rfl) (fun _ _ _ h => h) hSS hS rfl (fun w hSw => ?_) ?_
        rotate_left
        · obtain ⟨q0, q1, q2⟩ := hSw; go_simp; first | done | with_reducible rfl
        simp only [Act.put, List.setIfInBounds_toArray, List.set_cons_zero, List.set_cons_succ]
        refine lin_call (i := 8) rfl (by kernel_rfl) (by kernel_rfl) (by kernel_rfl) (fun _ _ _ h => h) hSS hS rfl (fun w hSw => by obtain ⟨q0, q1, q2⟩ := hSw; exact q w q2) (fun w hSw => ?_) ?_
        · obtain ⟨q0, q1, q2⟩ := hSw; go_simp
        simp only [Act.put, List.setIfInBounds_toArray, List.set_cons_zero, List.set_cons_succ]
        refine lin_val (i := 9) (v := ?_) rfl (by kernel_rfl) (by kernel_rfl) (by kernel_rfl) (fun _ _ _ h => h) hSS hS rfl (fun w hSw => ?_) ?_
        rotate_left
        · obtain ⟨q0, q1, q2⟩ := hSw; go_simp; first | done | with_reducible rfl
        simp only [Act.put, List.setIfInBounds_toArray, List.set_cons_zero, List.set_cons_succ]
        refine lin_done (by kernel_rfl) (fun wE kwE => ?_) _
        clear hS hSS
        have hk3 := HR.out.2.2.2.2.1.nil ((Kp.refl _ _).drew.nil kwE)
        have HK := hid hk3
        clear kwE hk3 a0 b0 q
        cases bs with
        | true =>
          go_wp2_with fail
          go_roundw
          case rel =>
            obtain ⟨hb, hx, hy, ht, hk, hbs⟩ := HR.out
            have hxy := of_decide_eq_true hbs.symm
            exact ⟨j + 1, by omega, by go_num, HK.out, by rw [List.take_add_one, List.take_add_one, hx, hy, ht, hxy]⟩
          case measure => simp [RowKit.intOf]; omega
        | false =>
          have hbf : b = false := by
            obtain ⟨hb, hx, hy, ht, hk, hbs⟩ := HR.out
            rw [hb, decide_eq_false_iff_not]
            rintro rfl
            rw [hx] at hy
            injection hy with hy
            exact of_decide_eq_false hbs.symm hy
          subst hbf
          go_wp2_with fail
          go_ret
          exact ⟨rfl, HK.out⟩
      · have hbt : b = true := by
          rw [hb, decide_eq_true_eq]
          rw [List.take_of_length_le (by omega), List.take_of_length_le (by omega)] at ht
          exact ht
        subst hbt
        have z1 : decide ((j : Int) < (n : Int)) = false := decide_eq_false (by omega)
        have z1n : decide (j < n) = false := decide_eq_false hlt
        have HK := hid hk
        clear hb hn hm c1 c2 ht hk hlt
        go_wp2_with fail
        go_ret
        exact ⟨rfl, HK.out⟩
  · have hbf : b = false := by
      obtain ⟨hb, hn, hm, c1, c2⟩ := HB.out
      rw [hb, decide_eq_false_iff_not]
      rintro rfl
      omega
    subst hbf
    have z1 : ((n : Int) != (m : Int)) = true := bne_iff_ne.2 (by omega)
    have z1n : (n != m) = true := bne_iff_ne.2 hnm
    have z2 : ¬ (n : Int) = (m : Int) := by omega
    go_enter Tryd.func13, Tryd.ntmps13
    go_wp2_with fail
    go_ret
    exact ⟨rfl, Kp.refl _ _⟩
end Go.Proofs.YtpeldjihalldkaaDoor
