/- FrameApart: unlike records have unlike bytes; each has as many bytes as it says; none begins as another one. -/
import Derived.Test.YtepeopfdenieeaaDoorPuts
import Derived.Test.YtepeopfdenieeaaDoorSame
import Derived.Test.YtepeopfdenieeaaDoorFrameLaw
namespace Go.Proofs.YtepeopfdenieeaaDoor
open Go Go.RowKit

theorem kp_alloc (w : World) (o : Obj) : Kp [] w (w.alloc o) := (Kp.refl _ _).alloc o
theorem recs_new (w : World) (r : Rec) {A : Option Addr} {c : Nat} (sp : Span w A (r.holes.map .string)) (h1 : r.holes.length ≤ c) (h2 : c ≤ 9223372036854775807) (g : Nat) (hg : g = w.heap.size) :
    RecsAt (w.alloc (.cells #[.int .i64 r.doc, .int .i64 r.out, .int .i64 r.len, .slice A r.holes.length c] 24)) (some ⟨g, 0, none⟩) [r] := by
  subst hg
  intro k q hk
  have hB := Cells.fresh w 24 [.int .i64 r.doc, .int .i64 r.out, .int .i64 r.len, .slice A r.holes.length c]
  have hk0 : k = 0 := by
    have := (List.getElem?_eq_some_iff.1 hk).1
    simp at this
    omega
  subst hk0
  simp only [List.getElem?_cons_zero, Option.some.injEq] at hk
  subst hk
  exact ⟨_, rfl, A, c, hB.cell 0, hB.cell 1, hB.cell 2, hB.cell 3, sp.kept (kp_alloc _ _), h1, h2⟩

theorem run_holes (w : World) (x y z : Int) (A : Option Addr) (n c : Nat) : (Instr.field 24 (.agg #[.int .i64 x, .int .i64 y, .int .i64 z, .slice A n c]) 3).run Tryd.prog w = .ok (.slice A n c) w := by
  simp [Instr.field, run_underlying Tryd.underlying24, part, asAgg, Tryd.isAgg22]
theorem length_holesL4 : ∀ (hs : List ByteArray), (∀ s ∈ hs, s.size ≤ 4100) → (holesL hs).length ≤ 4102 * hs.length
  | [], _ => by simp [holesL]
  | s :: hs, h => by
    have h1 := length_holesL4 hs (fun t ht => h t (by simp [ht]))
    have h2 := h s (by simp)
    have h3 : (holesL (s :: hs)).length = 2 + s.size + (holesL hs).length := by
      show ((be 2 s.size ++ s.data.toList) ++ holesL hs).length = _
      rw [List.length_append, List.length_append, length_be, Array.length_toList]
      rfl
    rw [h3, List.length_cons]
    omega
set_option maxRecDepth 100000 in
set_option maxHeartbeats 8000000 in
theorem apart_any (w : World) (hT : Tabs w) (va : Value) (ra : Rec) (hra : RecIs w ra va) (hina : RecIn ra) (vb : Value) (rb : Rec) (hrb : RecIs w rb vb) (hinb : RecIn rb) :
    Calls Tryd.prog 4 #[va, vb] w (YesPost w) := by
  have raz := hina.sizes
  have rbz := hinb.sizes
  clear hina hinb
  obtain ⟨Aa, ca, rfl, hspa, hca, hca2⟩ := hra
  obtain ⟨Ab, cb, rfl, hspb, hcb, hcb2⟩ := hrb
  obtain ⟨na, hna⟩ : ∃ m, m = ra.holes.length := ⟨_, rfl⟩
  obtain ⟨nb, hnb⟩ : ∃ m, m = rb.holes.length := ⟨_, rfl⟩
  rw [← hna] at hca ⊢
  rw [← hnb] at hcb ⊢
  obtain ⟨w1, hw1, B1, B2, K1⟩ : ∃ w1, w1 = (w.alloc (.cells #[.int .i64 ra.doc, .int .i64 ra.out, .int .i64 ra.len, .slice Aa na ca] 24)).alloc (.cells #[.int .i64 rb.doc, .int .i64 rb.out, .int .i64 rb.len, .slice Ab nb cb] 24) ∧
      Cells w1 w.heap.size 24 [.int .i64 ra.doc, .int .i64 ra.out, .int .i64 ra.len, .slice Aa na ca] ∧ Cells w1 (w.heap.size + 1) 24 [.int .i64 rb.doc, .int .i64 rb.out, .int .i64 rb.len, .slice Ab nb cb] ∧ Kp [] w w1 :=
    ⟨_, rfl, (Cells.fresh _ _ _).alloc _, Cells.fresh1 _ _ _ _, ((Kp.refl _ _).alloc _).alloc _⟩
  have hRa1 : RecIs w1 ra (.agg #[.int .i64 ra.doc, .int .i64 ra.out, .int .i64 ra.len, .slice Aa na ca]) := ⟨Aa, ca, by rw [hna], hspa.kept K1, by omega, hca2⟩
  have hRb1 : RecIs w1 rb (.agg #[.int .i64 rb.doc, .int .i64 rb.out, .int .i64 rb.len, .slice Ab nb cb]) := ⟨Ab, cb, by rw [hnb], hspb.kept K1, by omega, hcb2⟩
  obtain ⟨S, hS⟩ : ∃ S, S = w.heap.size := ⟨_, rfl⟩
  rw [← hS] at B1 B2
  have HW := hid (And.intro hw1 hS)
  clear hw1 hS hna hnb
  have hcells : ∀ wx, Kp [] w1 wx → (wx.cell? ⟨S, 0, none⟩ = some (.int .i64 ra.doc) ∧ wx.cell? ⟨S, 1, none⟩ = some (.int .i64 ra.out) ∧ wx.cell? ⟨S, 2, none⟩ = some (.int .i64 ra.len) ∧ wx.cell? ⟨S, 3, none⟩ = some (.slice Aa na ca)) ∧
      wx.cell? ⟨S + 1, 0, none⟩ = some (.int .i64 rb.doc) ∧ wx.cell? ⟨S + 1, 1, none⟩ = some (.int .i64 rb.out) ∧ wx.cell? ⟨S + 1, 2, none⟩ = some (.int .i64 rb.len) ∧ wx.cell? ⟨S + 1, 3, none⟩ = some (.slice Ab nb cb) := by
    intro wx k
    have b1 := B1.keep k (by simp)
    have b2 := B2.keep k (by simp)
    exact ⟨⟨b1.cell 0, b1.cell 1, b1.cell 2, b1.cell 3⟩, b2.cell 0, b2.cell 1, b2.cell 2, b2.cell 3⟩
  have HC := hid hcells
  clear hcells B1 B2
  go_enter Tryd.func4, Tryd.ntmps4
  go_wp2_with fail
  rw [← HW.out.1, ← HW.out.2]
  refine (shown_any _ (hT.kept K1)).mono ?_
  rintro e w2 ⟨rfl, hk2⟩
  obtain ⟨⟨c0, c1, c2, c3⟩, d0, d1, d2, d3⟩ := HC.out _ hk2
  go_wp2_with fail
  refine (few_any w2 ra _ (by exact hRa1.kept hk2) raz).mono ?_
  rintro e w3 ⟨v3, rfl, hR3, hk3⟩
  go_wp2_with fail
  refine (put_any w3 (fewL ra) v3 hR3 (hT.kept ((K1.nil hk2).nil hk3)) (fun s hs => Nat.le_trans (fewL_sizes ra s hs) (by omega))).mono ?_
  rintro e w4 ⟨v4, rfl, ho4, hn4⟩
  have hk4 := (hk2.nil hk3).nil hn4.kp
  clear c0 c1 c2 c3 d0 d1 d2 d3 hR3
  obtain ⟨⟨c0, c1, c2, c3⟩, d0, d1, d2, d3⟩ := HC.out _ hk4
  go_wp2_with fail
  refine (few_any w4 rb _ (by exact hRb1.kept hk4) rbz).mono ?_
  rintro e w4' ⟨v5, rfl, hR5, hk5⟩
  go_wp2_with fail
  refine (put_any w4' (fewL rb) v5 hR5 (hT.kept ((K1.nil hk4).nil hk5)) (fun s hs => Nat.le_trans (fewL_sizes rb s hs) (by omega))).mono ?_
  rintro e w5 ⟨v6, rfl, ho6, hn6⟩
  have hk6 := (hk4.nil hk5).nil hn6.kp
  have ho4' := ho4.kept (hk5.nil hn6.kp)
  have hkw : Kp [] w w5 := K1.nil hk6
  clear c0 c1 c2 c3 d0 d1 d2 d3 hR5 ho4
  obtain ⟨Ax, cx, rfl, hspx, hcx, -⟩ := ho4'.shape
  obtain ⟨Ay, cy, rfl, hspy, hcy, -⟩ := ho6.shape
  obtain ⟨X, hX⟩ : ∃ X, X = putL (fewL ra) := ⟨_, rfl⟩
  obtain ⟨Y, hY⟩ : ∃ Y, Y = putL (fewL rb) := ⟨_, rfl⟩
  obtain ⟨qa, hqa⟩ : ∃ q, q = mayOf (fewL ra) := ⟨_, rfl⟩
  obtain ⟨qb, hqb⟩ : ∃ q, q = mayOf (fewL rb) := ⟨_, rfl⟩
  rw [← hX] at hspx hcx ⊢
  rw [← hY] at hspy hcy ⊢
  rw [← hqa, ← hqb]
  have HX := hid hX
  have HY := hid hY
  have Hqa := hid hqa
  have Hqb := hid hqb
  obtain ⟨nx, hnx⟩ : ∃ n, n = X.length := ⟨_, rfl⟩
  obtain ⟨ny, hny⟩ : ∃ n, n = Y.length := ⟨_, rfl⟩
  rw [← hnx] at hcx ⊢
  rw [← hny] at hcy ⊢
  have Hnx := hid hnx
  have Hny := hid hny
  clear hX hY hqa hqb hnx hny ho4' ho6 hn4 hn6
  have hRa := hRa1.kept hk6
  have hRb := hRb1.kept hk6
  clear hRa1 hRb1
  by_cases g1 : qa = 0
  · by_cases g2 : qb = 0
    · by_cases g3 : nx ≤ 2000
      · by_cases g4 : ny ≤ 2000
        · subst g1 g2
          have HS : Hid (∀ wx, Kp [] w5 wx → (wx.cell? ⟨S, 0, none⟩ = some (.int .i64 ra.doc) ∧ wx.cell? ⟨S, 1, none⟩ = some (.int .i64 ra.out) ∧ wx.cell? ⟨S, 2, none⟩ = some (.int .i64 ra.len) ∧ wx.cell? ⟨S, 3, none⟩ = some (.slice Aa na ca)) ∧
              wx.cell? ⟨S + 1, 0, none⟩ = some (.int .i64 rb.doc) ∧ wx.cell? ⟨S + 1, 1, none⟩ = some (.int .i64 rb.out) ∧ wx.cell? ⟨S + 1, 2, none⟩ = some (.int .i64 rb.len) ∧ wx.cell? ⟨S + 1, 3, none⟩ = some (.slice Ab nb cb)) := hid (fun wx k => HC.out wx (hk6.nil k))
          have kD : Kp [] w5 w5.drew := (Kp.refl _ _).drew
          go_upto_region 6 with fail
          go_cut [10] (fun v wx => ∃ b, v = .bool b ∧ (b = true ↔ [fewL ra] = [fewL rb]) ∧ Kp [] w5 wx)
          case first =>
            refine wp_region_noPanic ?_
            refine wp_region_held (S := fun wx => (wx.cell? ⟨S, 0, none⟩ = some (.int .i64 ra.doc) ∧ wx.cell? ⟨S, 1, none⟩ = some (.int .i64 ra.out) ∧ wx.cell? ⟨S, 2, none⟩ = some (.int .i64 ra.len) ∧ wx.cell? ⟨S, 3, none⟩ = some (.slice Aa na ca)) ∧
              wx.cell? ⟨S + 1, 0, none⟩ = some (.int .i64 rb.doc) ∧ wx.cell? ⟨S + 1, 1, none⟩ = some (.int .i64 rb.out) ∧ wx.cell? ⟨S + 1, 2, none⟩ = some (.int .i64 rb.len) ∧ wx.cell? ⟨S + 1, 3, none⟩ = some (.slice Ab nb cb)) (by kernel_rfl) ?_
            have hS0 := HS.out _ kD
            refine wpAnyH_take (i := 0) (oi := ⟨some 44, Op.load 24 (Operand.tmp 2), 24, _, _, none⟩) (v := ?_) rfl (by kernel_rfl) (by kernel_rfl) (by kernel_rfl) (fun _ _ _ h => h) (Or.inl ⟨by rfl, ?_⟩) (by exact hS0) ?_
            rotate_left
            · (intro w hSw; (try dsimp only at hSw); go_simp; (try with_reducible rfl))
            try simp only [Act.put, List.setIfInBounds_toArray, List.set_cons_zero, List.set_cons_succ]
            refine wpAnyH_take (i := 3) (oi := ⟨some 47, Op.load 24 (Operand.tmp 3), 24, _, _, none⟩) (v := ?_) rfl (by kernel_rfl) (by kernel_rfl) (by kernel_rfl) (fun _ _ _ h => h) (Or.inl ⟨by rfl, ?_⟩) (by exact hS0) ?_
            rotate_left
            · (intro w hSw; (try dsimp only at hSw); go_simp; (try with_reducible rfl))
            try simp only [Act.put, List.setIfInBounds_toArray, List.set_cons_zero, List.set_cons_succ]
            refine wpAnyH_ready (rs := [1]) (by kernel_rfl) (by simp) ?_
            refine AllReadyH.cons (o := ⟨some 45, Op.call { callee := Callee.value (Operand.func 15), args := #[Operand.tmp 44], argTypes := #[24] }, 24, _, _, none⟩) rfl (fun K hK => ?_) AllReadyH.nil
            go_simp
            refine (few_any _ ra _ (by exact hRa.kept kD) raz).mono ?_
            rintro e w9 ⟨_, rfl, ⟨A3, c4, rfl, sp5, h6, h7⟩, kn8⟩
            have kK2 := kD.nil kn8
            have hS1 := HS.out _ kK2
            refine hK.out _ _ (by exact hS1) (fun _ => ?_)
            clear hK K
            try simp only [Act.put, List.setIfInBounds_toArray, List.set_cons_zero, List.set_cons_succ]
            refine wpAnyH_ready (rs := [2, 4]) (by kernel_rfl) (by simp) ?_
            refine AllReadyH.cons (o := ⟨some 46, Op.buildSlice 35 1 #[(0, Operand.tmp 45)], 35, _, _, none⟩) rfl (fun K hK => ?_) (AllReadyH.cons (o := ⟨some 48, Op.call { callee := Callee.value (Operand.func 15), args := #[Operand.tmp 47], argTypes := #[24] }, 24, _, _, none⟩) rfl (fun K hK => ?_) AllReadyH.nil)
            · go_simp
              have kK11 := kK2.nil (kp_alloc w9 (.cells #[.int .i64 (fewL ra).doc, .int .i64 (fewL ra).out, .int .i64 (fewL ra).len, .slice A3 (fewL ra).holes.length c4] 24))
              have x12 := recs_new w9 (fewL ra) sp5 h6 h7 (w9.heap.size) (by simp)
              have hS10 := HS.out _ kK11
              refine hK.out _ _ (by exact hS10) (fun _ => ?_)
              clear hK K
              try simp only [Act.put, List.setIfInBounds_toArray, List.set_cons_zero, List.set_cons_succ]
              refine wpAnyH_ready (rs := [4]) (by kernel_rfl) (by simp) ?_
              refine AllReadyH.cons (o := ⟨some 48, Op.call { callee := Callee.value (Operand.func 15), args := #[Operand.tmp 47], argTypes := #[24] }, 24, _, _, none⟩) rfl (fun K hK => ?_) AllReadyH.nil
              go_simp
              refine (few_any _ rb _ (by exact hRb.kept kK11) rbz).mono ?_
              rintro e w21 ⟨_, rfl, ⟨A15, c16, rfl, sp17, h18, h19⟩, kn20⟩
              have kK14 := kK11.nil kn20
              have x22 := x12.kept kn20
              have hS13 := HS.out _ kK14
              refine hK.out _ _ (by exact hS13) (fun _ => ?_)
              clear hK K
              try simp only [Act.put, List.setIfInBounds_toArray, List.set_cons_zero, List.set_cons_succ]
              refine wpAnyH_ready (rs := [5]) (by kernel_rfl) (by simp) ?_
              refine AllReadyH.cons (o := ⟨some 49, Op.buildSlice 35 1 #[(0, Operand.tmp 48)], 35, _, _, none⟩) rfl (fun K hK => ?_) AllReadyH.nil
              go_simp
              have kK24 := kK14.nil (kp_alloc w21 (.cells #[.int .i64 (fewL rb).doc, .int .i64 (fewL rb).out, .int .i64 (fewL rb).len, .slice A15 (fewL rb).holes.length c16] 24))
              have x25 := recs_new w21 (fewL rb) sp17 h18 h19 (w21.heap.size) (by simp)
              have x26 := x22.kept (kp_alloc w21 (.cells #[.int .i64 (fewL rb).doc, .int .i64 (fewL rb).out, .int .i64 (fewL rb).len, .slice A15 (fewL rb).holes.length c16] 24))
              have hS23 := HS.out _ kK24
              refine hK.out _ _ (by exact hS23) (fun _ => ?_)
              clear hK K
              try simp only [Act.put, List.setIfInBounds_toArray, List.set_cons_zero, List.set_cons_succ]
              refine wpAnyH_ready (rs := [6]) (by kernel_rfl) (by simp) ?_
              refine AllReadyH.cons (o := ⟨some 50, Op.call { callee := Callee.value (Operand.func 19), args := #[Operand.tmp 46, Operand.tmp 49], argTypes := #[35, 35] }, 4, _, _, none⟩) rfl (fun K hK => ?_) AllReadyH.nil
              go_simp
              refine (same_any _ _ 1 [fewL ra] (by exact x26) _ 1 [fewL rb] (by exact x25) (by simp)).mono ?_
              rintro e wz ⟨b, rfl, hb, qz, hwz⟩
              have hKz : Kp [] w5 wz := kK24.nil (by rw [hwz]; exact (Kp.refl _ _).drewN _)
              have hS27 := HS.out _ hKz
              refine hK.out _ _ (by exact hS27) (fun _ => ?_)
              clear hK K
              try simp only [Act.put, List.setIfInBounds_toArray, List.set_cons_zero, List.set_cons_succ]
              refine wpAnyH_take (i := 7) (oi := ⟨some 10, Op.assign (Operand.tmp 50), 4, _, _, none⟩) (v := ?_) rfl (by kernel_rfl) (by kernel_rfl) (by kernel_rfl) (fun _ _ _ h => h) (Or.inl ⟨by rfl, ?_⟩) (by exact hS27) ?_
              rotate_left
              · (intro w hSw; (try dsimp only at hSw); go_simp; (try with_reducible rfl))
              try simp only [Act.put, List.setIfInBounds_toArray, List.set_cons_zero, List.set_cons_succ]
              refine wpAnyH_done (by kernel_rfl) ?_ _
              refine NoPanic.normal ?_
              go_wp2_with fail
              go_meet
              exact ⟨b, rfl, hb, hKz⟩
            · go_simp
              refine (few_any _ rb _ (by exact hRb.kept kK2) rbz).mono ?_
              rintro e w36 ⟨_, rfl, ⟨A30, c31, rfl, sp32, h33, h34⟩, kn35⟩
              have kK29 := kK2.nil kn35
              have x37 := sp5.kept kn35
              have hS28 := HS.out _ kK29
              refine hK.out _ _ (by exact hS28) (fun _ => ?_)
              clear hK K
              try simp only [Act.put, List.setIfInBounds_toArray, List.set_cons_zero, List.set_cons_succ]
              refine wpAnyH_ready (rs := [2, 5]) (by kernel_rfl) (by simp) ?_
              refine AllReadyH.cons (o := ⟨some 46, Op.buildSlice 35 1 #[(0, Operand.tmp 45)], 35, _, _, none⟩) rfl (fun K hK => ?_) (AllReadyH.cons (o := ⟨some 49, Op.buildSlice 35 1 #[(0, Operand.tmp 48)], 35, _, _, none⟩) rfl (fun K hK => ?_) AllReadyH.nil)
              · go_simp
                have kK39 := kK29.nil (kp_alloc w36 (.cells #[.int .i64 (fewL ra).doc, .int .i64 (fewL ra).out, .int .i64 (fewL ra).len, .slice A3 (fewL ra).holes.length c4] 24))
                have x40 := recs_new w36 (fewL ra) x37 h6 h7 (w36.heap.size) (by simp)
                have x41 := sp32.kept (kp_alloc w36 (.cells #[.int .i64 (fewL ra).doc, .int .i64 (fewL ra).out, .int .i64 (fewL ra).len, .slice A3 (fewL ra).holes.length c4] 24))
                have hS38 := HS.out _ kK39
                refine hK.out _ _ (by exact hS38) (fun _ => ?_)
                clear hK K
                try simp only [Act.put, List.setIfInBounds_toArray, List.set_cons_zero, List.set_cons_succ]
                refine wpAnyH_ready (rs := [5]) (by kernel_rfl) (by simp) ?_
                refine AllReadyH.cons (o := ⟨some 49, Op.buildSlice 35 1 #[(0, Operand.tmp 48)], 35, _, _, none⟩) rfl (fun K hK => ?_) AllReadyH.nil
                go_simp
                have kK43 := kK39.nil (kp_alloc (World.alloc w36 (.cells #[.int .i64 (fewL ra).doc, .int .i64 (fewL ra).out, .int .i64 (fewL ra).len, .slice A3 (fewL ra).holes.length c4] 24)) (.cells #[.int .i64 (fewL rb).doc, .int .i64 (fewL rb).out, .int .i64 (fewL rb).len, .slice A30 (fewL rb).holes.length c31] 24))
                have x44 := recs_new (World.alloc w36 (.cells #[.int .i64 (fewL ra).doc, .int .i64 (fewL ra).out, .int .i64 (fewL ra).len, .slice A3 (fewL ra).holes.length c4] 24)) (fewL rb) x41 h33 h34 (w36.heap.size+1) (by simp)
                have x45 := x40.kept (kp_alloc (World.alloc w36 (.cells #[.int .i64 (fewL ra).doc, .int .i64 (fewL ra).out, .int .i64 (fewL ra).len, .slice A3 (fewL ra).holes.length c4] 24)) (.cells #[.int .i64 (fewL rb).doc, .int .i64 (fewL rb).out, .int .i64 (fewL rb).len, .slice A30 (fewL rb).holes.length c31] 24))
                have hS42 := HS.out _ kK43
                refine hK.out _ _ (by exact hS42) (fun _ => ?_)
                clear hK K
                try simp only [Act.put, List.setIfInBounds_toArray, List.set_cons_zero, List.set_cons_succ]
                refine wpAnyH_ready (rs := [6]) (by kernel_rfl) (by simp) ?_
                refine AllReadyH.cons (o := ⟨some 50, Op.call { callee := Callee.value (Operand.func 19), args := #[Operand.tmp 46, Operand.tmp 49], argTypes := #[35, 35] }, 4, _, _, none⟩) rfl (fun K hK => ?_) AllReadyH.nil
                go_simp
                refine (same_any _ _ 1 [fewL ra] (by exact x45) _ 1 [fewL rb] (by exact x44) (by simp)).mono ?_
                rintro e wz ⟨b, rfl, hb, qz, hwz⟩
                have hKz : Kp [] w5 wz := kK43.nil (by rw [hwz]; exact (Kp.refl _ _).drewN _)
                have hS46 := HS.out _ hKz
                refine hK.out _ _ (by exact hS46) (fun _ => ?_)
                clear hK K
                try simp only [Act.put, List.setIfInBounds_toArray, List.set_cons_zero, List.set_cons_succ]
                refine wpAnyH_take (i := 7) (oi := ⟨some 10, Op.assign (Operand.tmp 50), 4, _, _, none⟩) (v := ?_) rfl (by kernel_rfl) (by kernel_rfl) (by kernel_rfl) (fun _ _ _ h => h) (Or.inl ⟨by rfl, ?_⟩) (by exact hS46) ?_
                rotate_left
                · (intro w hSw; (try dsimp only at hSw); go_simp; (try with_reducible rfl))
                try simp only [Act.put, List.setIfInBounds_toArray, List.set_cons_zero, List.set_cons_succ]
                refine wpAnyH_done (by kernel_rfl) ?_ _
                refine NoPanic.normal ?_
                go_wp2_with fail
                go_meet
                exact ⟨b, rfl, hb, hKz⟩
              · go_simp
                have kK48 := kK29.nil (kp_alloc w36 (.cells #[.int .i64 (fewL rb).doc, .int .i64 (fewL rb).out, .int .i64 (fewL rb).len, .slice A30 (fewL rb).holes.length c31] 24))
                have x49 := recs_new w36 (fewL rb) sp32 h33 h34 (w36.heap.size) (by simp)
                have x50 := x37.kept (kp_alloc w36 (.cells #[.int .i64 (fewL rb).doc, .int .i64 (fewL rb).out, .int .i64 (fewL rb).len, .slice A30 (fewL rb).holes.length c31] 24))
                have hS47 := HS.out _ kK48
                refine hK.out _ _ (by exact hS47) (fun _ => ?_)
                clear hK K
                try simp only [Act.put, List.setIfInBounds_toArray, List.set_cons_zero, List.set_cons_succ]
                refine wpAnyH_ready (rs := [2]) (by kernel_rfl) (by simp) ?_
                refine AllReadyH.cons (o := ⟨some 46, Op.buildSlice 35 1 #[(0, Operand.tmp 45)], 35, _, _, none⟩) rfl (fun K hK => ?_) AllReadyH.nil
                go_simp
                have kK52 := kK48.nil (kp_alloc (World.alloc w36 (.cells #[.int .i64 (fewL rb).doc, .int .i64 (fewL rb).out, .int .i64 (fewL rb).len, .slice A30 (fewL rb).holes.length c31] 24)) (.cells #[.int .i64 (fewL ra).doc, .int .i64 (fewL ra).out, .int .i64 (fewL ra).len, .slice A3 (fewL ra).holes.length c4] 24))
                have x53 := recs_new (World.alloc w36 (.cells #[.int .i64 (fewL rb).doc, .int .i64 (fewL rb).out, .int .i64 (fewL rb).len, .slice A30 (fewL rb).holes.length c31] 24)) (fewL ra) x50 h6 h7 (w36.heap.size+1) (by simp)
                have x54 := x49.kept (kp_alloc (World.alloc w36 (.cells #[.int .i64 (fewL rb).doc, .int .i64 (fewL rb).out, .int .i64 (fewL rb).len, .slice A30 (fewL rb).holes.length c31] 24)) (.cells #[.int .i64 (fewL ra).doc, .int .i64 (fewL ra).out, .int .i64 (fewL ra).len, .slice A3 (fewL ra).holes.length c4] 24))
                have hS51 := HS.out _ kK52
                refine hK.out _ _ (by exact hS51) (fun _ => ?_)
                clear hK K
                try simp only [Act.put, List.setIfInBounds_toArray, List.set_cons_zero, List.set_cons_succ]
                refine wpAnyH_ready (rs := [6]) (by kernel_rfl) (by simp) ?_
                refine AllReadyH.cons (o := ⟨some 50, Op.call { callee := Callee.value (Operand.func 19), args := #[Operand.tmp 46, Operand.tmp 49], argTypes := #[35, 35] }, 4, _, _, none⟩) rfl (fun K hK => ?_) AllReadyH.nil
                go_simp
                refine (same_any _ _ 1 [fewL ra] (by exact x53) _ 1 [fewL rb] (by exact x54) (by simp)).mono ?_
                rintro e wz ⟨b, rfl, hb, qz, hwz⟩
                have hKz : Kp [] w5 wz := kK52.nil (by rw [hwz]; exact (Kp.refl _ _).drewN _)
                have hS55 := HS.out _ hKz
                refine hK.out _ _ (by exact hS55) (fun _ => ?_)
                clear hK K
                try simp only [Act.put, List.setIfInBounds_toArray, List.set_cons_zero, List.set_cons_succ]
                refine wpAnyH_take (i := 7) (oi := ⟨some 10, Op.assign (Operand.tmp 50), 4, _, _, none⟩) (v := ?_) rfl (by kernel_rfl) (by kernel_rfl) (by kernel_rfl) (fun _ _ _ h => h) (Or.inl ⟨by rfl, ?_⟩) (by exact hS55) ?_
                rotate_left
                · (intro w hSw; (try dsimp only at hSw); go_simp; (try with_reducible rfl))
                try simp only [Act.put, List.setIfInBounds_toArray, List.set_cons_zero, List.set_cons_succ]
                refine wpAnyH_done (by kernel_rfl) ?_ _
                refine NoPanic.normal ?_
                go_wp2_with fail
                go_meet
                exact ⟨b, rfl, hb, hKz⟩
          case rest =>
            clear hRb kD
            obtain ⟨b, rfl, hb, hkc⟩ := hcut
            obtain ⟨nh, hnh⟩ : ∃ n, n = (fewL ra).holes.length := ⟨_, rfl⟩
            have hnh2 : nh ≤ 210 := by rw [hnh, fewL, length_fewN]; omega
            have hmX : X = putB (fewL ra) := by rw [HX.out, putL, if_pos Hqa.out.symm]
            have hmY : Y = putB (fewL rb) := by rw [HY.out, putL, if_pos Hqb.out.symm]
            have hlX : nx = 22 + (holesL (fewL ra).holes).length := by rw [Hnx.out, hmX, length_putB]
            have hbb : b = true ↔ fewL ra = fewL rb := by rw [hb]; simp
            have hfield := run_holes
            have Hnh := hid hnh
            have HmX := hid hmX
            have HmY := hid hmY
            have HlX := hid hlX
            have Hbb := hid hbb
            clear hb hnh hmX hmY hlX hbb
            go_wp2_with fail
            go_loopw [11, 12] (fun t i wr => ∃ k : Nat, k ≤ nh ∧ i = .int .i64 k ∧ t = .int .i64 ((22 + (holesL ((fewL ra).holes.take k)).length : Nat) : Int) ∧ Kp [] w5 wr) (fun _ i _ => nh - (intOf i).toNat)
            case atStart => exact ⟨0, by omega, rfl, rfl, hkc⟩
            case round =>
              clear hkc
              obtain ⟨k, hk, rfl, rfl, hkr⟩ := hrel
              obtain ⟨⟨c0, c1, c2, c3⟩, -⟩ := HC.out _ (hk6.nil hkr)
              have hsm : ∀ j, (holesL ((fewL ra).holes.take j)).length ≤ 4102 * 210 := by
                intro j
                have := length_holesL4 ((fewL ra).holes.take j) (fun s hs => fewL_sizes ra s (List.mem_of_mem_take hs))
                have h2 : ((fewL ra).holes.take j).length ≤ 210 := by rw [List.length_take]; have := Hnh.out; omega
                have h3 := Nat.mul_le_mul_left 4102 h2
                omega
              have hsk := hsm k
              have Hsm := hid hsm
              clear hsm
              obtain ⟨z, hz⟩ : ∃ z, z = (holesL ((fewL ra).holes.take k)).length := ⟨_, rfl⟩
              rw [← hz] at hsk ⊢
              have Hz := hid hz
              clear hz
              go_wp2_with fail
              refine (few_any wr ra _ (by exact hRa.kept hkr) raz).mono ?_
              rintro e wa ⟨_, rfl, ⟨A3, c3', rfl, sp3, h31, h32⟩, ka⟩
              clear c0 c1 c2 c3
              obtain ⟨⟨c0, c1, c2, c3⟩, -⟩ := HC.out _ (hk6.nil (hkr.nil ka))
              rw [← Hnh.out] at h31 ⊢
              by_cases hlt : k < nh
              · go_wp2_with fail
                refine (few_any wa ra _ (by exact hRa.kept (hkr.nil ka)) raz).mono ?_
                rintro e wb ⟨_, rfl, ⟨A4, c4', rfl, sp4, h41, h42⟩, kb⟩
                have hkl : k < (fewL ra).holes.length := by rw [← Hnh.out]; exact hlt
                obtain ⟨ad, hA, hcl⟩ := sp4.get (j := k) (by simpa using hkl)
                subst hA
                simp only [List.getElem_map] at hcl
                have htk := holesL_take (fewL ra).holes k hkl
                have hsz := fewL_sizes ra _ (List.getElem_mem hkl)
                obtain ⟨s, hs1⟩ : ∃ s, s = (fewL ra).holes[k] := ⟨_, rfl⟩
                rw [← hs1] at hcl htk hsz
                have htl : (holesL ((fewL ra).holes.take (k + 1))).length = z + 2 + s.size := by
                  rw [htk, List.length_append, List.length_append, length_be, length_data, ← Hz.out]
                have Htl := hid htl
                clear hs1 htk htl
                rw [← Hnh.out]
                go_wp2_with fail
                go_roundw
                case rel => exact ⟨k + 1, by omega, by go_num, by rw [Htl.out]; go_num, (hkr.nil ka).nil kb⟩
                case measure => simp [intOf]; omega
              · have hkf : (fewL ra).holes.take k = (fewL ra).holes := List.take_of_length_le (by have := Hnh.out; omega)
                have hnz : nx = 22 + z := by rw [HlX.out, Hz.out, hkf]
                subst hnz
                have hka : Kp [] w5 wa := hkr.nil ka
                have sX := hspx.kept hka
                have sY := hspy.kept hka
                have lX : X.length = (22 + z) := Hnx.out.symm
                have lY : Y.length = ny := Hny.out.symm
                have cvX := fun q => run_text (P := Tryd.prog) Tryd.underlying25 Tryd.underlying5 Tryd.underlying9 (w := wa.drewN q) (show Span (wa.drewN q) Ax (u8s X) from sX) (22 + z) cx lX
                have cvY := fun q => run_text (P := Tryd.prog) Tryd.underlying25 Tryd.underlying5 Tryd.underlying9 (w := wa.drewN q) (show Span (wa.drewN q) Ay (u8s Y) from sY) ny cy lY
                have hfree := fun (h : (22 + z) < ny) (hm1 : mayOf (fewL ra) = 0) (hm2 : mayOf (fewL rb) = 0) => putB_begins hm1 hm2 (by rw [← HmX.out, ← HmY.out, lX, lY]; exact h)
                have hinj := fun (h : X = Y) => putB_inj Hqa.out.symm Hqb.out.symm (by rw [← HmX.out, ← HmY.out]; exact h)
                have Hfree := hid hfree
                have Hinj := hid hinj
                have hkw2 : Kp [] w wa := hkw.nil hka
                have Hka := hid hka
                clear c0 c1 c2 c3 hfree hinj sp3 h31 h32 hka hkr ka
                by_cases heq : fewL ra = fewL rb
                · have hb : b = true := Hbb.out.2 heq
                  have hXY : X = Y := by rw [HmX.out, HmY.out, heq]
                  have hle : ¬ (22 + z) < ny := by rw [← lX, ← lY, hXY]; omega
                  have cb : decide (22 + (z : Int) < (ny : Int)) = false := decide_eq_false (by omega)
                  have Heq := hid heq
                  subst hXY hb
                  clear heq
                  go_wp2_with fail
                  go_quiet (fail)
                  generalize nq = n1 at *
                  go_wp2_with fail
                  go_ret
                  exact ⟨rfl, hkw2.drewN _⟩
                · have hb : b = false := by
                    cases hb1 : b with
                    | false => rfl
                    | true => exact absurd (Hbb.out.1 hb1) heq
                  have hXY : (X == Y) = false := by
                    rw [beq_eq_false_iff_ne]
                    exact fun e => heq (Hinj.out e)
                  subst hb
                  by_cases hlt2 : (22 + z) < ny
                  · have cb : decide (22 + (z : Int) < (ny : Int)) = true := decide_eq_true (by omega)
                    have hT2 : (Y.take (22 + z)).length = 22 + z := by rw [List.length_take, lY]; omega
                    have sT : Span wa Ay (u8s (Y.take (22 + z))) := by rw [u8s_take]; exact sY.take _
                    have cvT := fun q => run_text (P := Tryd.prog) Tryd.underlying25 Tryd.underlying5 Tryd.underlying9 (w := wa.drewN q) (show Span (wa.drewN q) Ay (u8s (Y.take (22 + z))) from sT) (22 + z) cy hT2
                    have hTX : (Y.take (22 + z) == X) = false := by
                      rw [beq_eq_false_iff_ne]
                      have h := Hfree.out hlt2 Hqa.out.symm Hqb.out.symm
                      rw [← HmX.out, ← HmY.out, lX] at h
                      exact h
                    have j1 : 22 + z ≤ cy := by omega
                    have j2 : 22 + (z : Int) ≤ (cy : Int) := by omega
                    obtain ⟨V, hV⟩ : ∃ V, V = Y.take (22 + z) := ⟨_, rfl⟩
                    rw [← hV] at cvT hTX
                    clear hV heq hT2 sT
                    go_wp2_with fail
                    go_quiet (fail)
                    generalize nq = n1 at *
                    go_wp2_with fail
                    go_ret
                    exact ⟨rfl, hkw2.drewN _⟩
                  · have cb : decide (22 + (z : Int) < (ny : Int)) = false := decide_eq_false (by omega)
                    clear heq
                    go_wp2_with fail
                    go_quiet (fail)
                    generalize nq = n1 at *
                    go_wp2_with fail
                    go_ret
                    exact ⟨rfl, hkw2.drewN _⟩
        · go_wp2_with fail
          go_ret
          exact ⟨rfl, hkw⟩
      · go_wp2_with fail
        go_ret
        exact ⟨rfl, hkw⟩
    · go_wp2_with fail
      go_ret
      exact ⟨rfl, hkw⟩
  · go_wp2_with fail
    go_ret
    exact ⟨rfl, hkw⟩
end Go.Proofs.YtepeopfdenieeaaDoor
