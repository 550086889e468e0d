/- The document's reader of texts at the example: the object. -/
import Derived.Test.YtpeldjihalldkaaDoorRK
namespace Go.Proofs.YtpeldjihalldkaaDoor
open Go Go.RowKit Go.Lib

theorem Ob.after {R B : Nat} {W w w' : World} {keys : List Txt} {vk vb : Value} {xs : List Value} {s : ByteArray} {p m : Nat} (h : Ob R B W keys vk vb xs) (hr : Rd W R s p m) (k0 : Kp [R] w W) (k : Kp (vk.ownBlock.toList ++ vb.ownBlock.toList) W w') (a0 a1 a2 a3 a4 a5 a6 a7 a8 : Value) (hB : w.heap.size ≤ B := by exact Nat.le_refl _) :
    Rd (nine w' B a0 a1 a2 a3 a4 a5 a6 a7 a8) R s p m ∧ Kp [R] w (nine w' B a0 a1 a2 a3 a4 a5 a6 a7 a8) := by
  have hS : ∀ x ∈ vk.ownBlock.toList ++ vb.ownBlock.toList, B + 2 ≤ x := fun x hx => by
    rcases List.mem_append.1 hx with hx | hx
    · exact h.nk x (by simpa using hx)
    · exact h.nb x (by simpa using hx)
  have hrb := h.rb
  refine ⟨(hr.keep k (fun hm => by have := hS _ hm; omega)).keep (kp_nine (Kp.refl [B] _) B (.inr (by simp)) _ _ _ _ _ _ _ _ _) (by simp; omega), ?_⟩
  exact kp_nine (k0.trans k (fun x hx hl => by have := hS x hx; omega)) B (.inl hB) _ _ _ _ _ _ _ _ _
set_option maxRecDepth 100000 in
set_option maxHeartbeats 25600000 in
theorem kids_obj (w : World) (R n : Nat) (hR : Rd w R exS 0 n) (hn : n ≤ 20) :
    Calls Tryd.prog 83 #[.pointer (some ⟨R, 0, none⟩), .agg #[.int .i64 7, .int .u64 0, .bool false, .string ⟨#[]⟩, .int .i64 0, .string ⟨#[]⟩, .slice none 0 0, .slice none 0 0, .int .i64 0], .int .i64 1, .int .u8 125] w fun e w' => ∃ vk vb G cG, e = .returned (.agg #[.int .i64 7, .int .u64 0, .bool false, .string ⟨#[]⟩, .int .i64 0, .string ⟨#[]⟩, vk, vb, .int .i64 0]) ∧
      Rd w' R exS 15 (n + 1 + 2) ∧ Own w' 9 vk 2 (tstrs [[97], [98]]) ∧ OwnN w' 31 9 vb 2 (oneC 49 ++ [.int .i64 6, .int .u64 0, .bool false, .string ⟨#[]⟩, .int .i64 0, .string ⟨#[]⟩, .slice none 0 0, .slice (some ⟨G, 0, none⟩) 1 cG, .int .i64 0]) ∧
      OwnN w' 31 9 (.slice (some ⟨G, 0, none⟩) 1 cG) 1 (oneC 50) ∧ (∀ g, vk.ownBlock = some g → w.heap.size ≤ g) ∧ (∀ g, vb.ownBlock = some g → w.heap.size ≤ g) ∧ w.heap.size ≤ G ∧ vb.ownBlock ≠ some G ∧ Kp [R] w w' := by
  have hlt := hR.lt
  obtain ⟨w0, hw0⟩ : ∃ w0, w0 = w.setCell ⟨R, 1, none⟩ (.int .i64 1) := ⟨_, rfl⟩
  have hR0 : Rd w0 R exS 1 n := by rw [hw0]; exact hR.put 1
  have hk0 : Kp [R] w w0 := by rw [hw0]; exact kp_put (Kp.refl _ _) R 1 (.inr (by simp)) _
  have hsz0 : w0.heap.size = w.heap.size := by rw [hw0]; simp [World.setCell]
  obtain ⟨w1, hw1⟩ : ∃ w1, w1 = (w0.alloc (.cells #[.int .i64 7, .int .u64 0, .bool false, .string ⟨#[]⟩, .int .i64 0, .string ⟨#[]⟩, .slice none 0 0, .slice none 0 0, .int .i64 0] 31)).alloc (.cells #[.int .i64 0, .int .u64 0, .bool false, .string ⟨#[]⟩, .int .i64 0, .string ⟨#[]⟩, .slice none 0 0, .slice none 0 0, .int .i64 0] 31) := ⟨_, rfl⟩
  have hroom : VRoom (w.heap.size + 1) w1 := by
    have := VRoom.fresh (w0.alloc (.cells #[.int .i64 7, .int .u64 0, .bool false, .string ⟨#[]⟩, .int .i64 0, .string ⟨#[]⟩, .slice none 0 0, .slice none 0 0, .int .i64 0] 31)) (.int .i64 0) (.int .u64 0) (.bool false) (.string ⟨#[]⟩) (.int .i64 0) (.string ⟨#[]⟩) (.slice none 0 0) (.slice none 0 0) (.int .i64 0)
    rw [hw1, ← hsz0]
    simpa using this
  have hka : Kp [R] w w1 := by rw [hw1]; exact (hk0.alloc _).alloc _
  have hsz1 : w1.heap.size = w.heap.size + 2 := by rw [hw1, ← hsz0]; simp
  have hbox : Cells w1 w.heap.size 31 (objC (.slice none 0 0) (.slice none 0 0)) := by rw [hw1, ← hsz0]; exact (Cells.fresh w0 31 _).alloc _
  have hR1 : Rd w1 R exS 1 n := by rw [hw1]; exact hR0.kept (((Kp.refl _ _).alloc _).alloc _)
  have hob : Ob R w.heap.size w1 [] (.slice none 0 0) (.slice none 0 0) [] := ⟨hbox, hroom, Own.nil _ _, OwnN.nil _ _ _, fun g hg => by simp [Value.ownBlock] at hg, fun g hg => by simp [Value.ownBlock] at hg, fun g hg => by simp [Value.ownBlock] at hg, by omega, hlt⟩
  have q1 := fun W (h : Rd W R exS 1 n) => blanks_at W R exS 1 n 34 h (exB 1 34 (by decide) rfl) (by decide)
  have q2 := fun W (h : Rd W R exS 1 n) => next_at W R exS 1 n 34 h (exB 1 34 (by decide) rfl)
  simp only [Int.cast_ofNat_Int] at q2
  have HW := hid hw1
  have HW0 := hid hw0
  have HK := hid (And.intro hR1 (And.intro hob hka))
  obtain ⟨c0, c1, -⟩ := hR.cells
  simp only [Int.cast_ofNat_Int] at c1
  obtain ⟨f1, -⟩ := hR.frees
  clear hR hR0 hk0 hsz0 hroom hka hbox hR1 hw1 hsz1 hw0 hob
  go_enter Tryd.func83, Tryd.ntmps83
  go_wp2_with fail
  rw [← HW0.out, ← HW.out]
  (with_reducible refine (q1 _ HK.out.1).mono ?_)
  rintro e w2 ⟨⟨v, rfl⟩, k2⟩
  have HR2 := hid (And.intro (HK.out.1.kept k2) (And.intro (HK.out.2.1.kept k2) (HK.out.2.2.nil k2)))
  clear k2 c0 c1 f1 q1
  go_wp2_with fail
  (with_reducible refine (q2 _ HR2.out.1).mono ?_)
  rintro e w3 ⟨rfl, k3⟩
  have HR3 := hid (And.intro (HR2.out.1.kept k3) (And.intro (HR2.out.2.1.kept k3) (HR2.out.2.2.nil k3)))
  clear k3 q2
  go_wp2_with fail
  go_loopw [9] (fun v9 wr => (v9 = .int .i64 0 ∧ Rd wr R exS 1 n ∧ Ob R w.heap.size wr [] (.slice none 0 0) (.slice none 0 0) [] ∧ Kp [R] w wr) ∨ (v9 = .int .i64 1 ∧ Rd wr R exS 7 (n + 1) ∧ (∃ vk vb, Ob R w.heap.size wr [[97]] vk vb (oneC 49)) ∧ Kp [R] w wr)) (fun v9 _ => 2 - (RowKit.intOf v9).toNat)
  case atStart => exact .inl ⟨rfl, HR3.out⟩
  case round =>
    rcases hrel with ⟨rfl, hRr, hob, hkr⟩ | ⟨rfl, hRr, ⟨vk, vb, hob⟩, hkr⟩
    focus
      have q1 := fun W (h : Rd W R exS 1 n) => blanks_at W R exS 1 n 34 h (exB 1 34 (by decide) rfl) (by decide)
      have q2 := fun W (h : Rd W R exS 1 n) => quoted_at W R exS 1 n 3 [97] h (by decide) (by decide) (by kernel_rfl) (by decide)
      have q3 := fun W (h : Rd W R exS 4 n) => blanks_at W R exS 4 n 58 h (exB 4 58 (by decide) rfl) (by decide)
      have q4 := fun W (h : Rd W R exS 4 n) => next_at W R exS 4 n 58 h (exB 4 58 (by decide) rfl)
      have q5 := fun W (h : Rd W R exS 5 n) => value_one W R (n) 2 h (by decide) (by omega)
      have q6 := fun W (h : Rd W R exS 6 (n + 1)) => blanks_at W R exS 6 (n + 1) 44 h (exB 6 44 (by decide) rfl) (by decide)
      have q7 := fun W (h : Rd W R exS 6 (n + 1)) => next_at W R exS 6 (n + 1) 44 h (exB 6 44 (by decide) rfl)
      try simp only [Int.cast_ofNat_Int] at q4
      try simp only [Int.cast_ofNat_Int] at q5
      try simp only [Int.cast_ofNat_Int] at q7
      have c3 := hRr.cells.2.2.2.1
      have H0 := hid (And.intro hRr (And.intro hob hkr))
      clear hRr hob hkr
      go_wp2_with fail
      (with_reducible refine (q1 _ H0.out.1).mono ?_)
      rintro e w1 ⟨⟨v, rfl⟩, k1⟩
      have H1 := hid (And.intro (H0.out.1.kept k1) (And.intro (H0.out.2.1.kept k1) (H0.out.2.2.nil k1)))
      have d0 := H1.out.2.1.box.cell 0
      clear k1 q1 c3
      go_wp2_with fail
      (with_reducible refine (q2 _ H1.out.1).mono ?_)
      rintro e w2 ⟨rfl, hR2, k2⟩
      have H2 := hid (And.intro hR2 (And.intro (H1.out.2.1.keep k2) (H1.out.2.2.trans k2 (fun x hx _ => hx))))
      clear k2 q2 d0 hR2
      go_wp2_with fail
      (with_reducible refine (q3 _ H2.out.1).mono ?_)
      rintro e w3 ⟨⟨v, rfl⟩, k3⟩
      have H3 := hid (And.intro (H2.out.1.kept k3) (And.intro (H2.out.2.1.kept k3) (H2.out.2.2.nil k3)))
      clear k3 q3
      go_wp2_with fail
      (with_reducible refine (q4 _ H3.out.1).mono ?_)
      rintro e w4 ⟨rfl, k4⟩
      have hR4 := H3.out.1.kept k4
      have hob4 := H3.out.2.1.kept k4
      have hk4 := H3.out.2.2.nil k4
      have hp4 : Kp [R] w4 (w4.setCell ⟨R, 1, none⟩ (.int .i64 5)) := kp_put (Kp.refl _ _) _ _ (.inr (by simp)) _
      have c1 := hR4.cells.2.1
      have c3 := hR4.cells.2.2.2.1
      have f1 := hR4.frees.1
      try simp only [Int.cast_ofNat_Int] at c1
      have hR4' : Rd (w4.setCell ⟨R, 1, none⟩ (.int .i64 5)) R exS 5 n := hR4.put 5
      have H4 := hid (And.intro hR4' (And.intro (hob4.keep hp4) (hk4.trans hp4 (fun x hx _ => hx))))
      clear k4 q4 hR4 hob4 hk4 hp4 hR4'
      go_wp2_with fail
      (with_reducible refine (q5 _ H4.out.1).mono ?_)
      rintro e w5 ⟨rfl, hR5, k5⟩
      have H5 := hid (And.intro hR5 (And.intro (H4.out.2.1.keep k5) (H4.out.2.2.trans k5 (fun x hx _ => hx))))
      have hk6 : ∀ o, Kp [R] w5 ((w5.alloc o).setCell ⟨R, 5, none⟩ (.bool false)) := fun o => kp_put ((Kp.refl _ _).alloc o) R 5 (.inr (by simp)) _
      have hRB := H5.out.2.1.rb
      have hne : R ≠ w5.heap.size := by have := H5.out.1.lt; omega
      have hne2 : w5.heap.size ≠ R := hne.symm
      have c5 := hR5.cells.2.2.2.2.2
      have cc5 := fun o => ((Kp.refl [] w5).alloc o).cell c5 (by simp)
      have ff5 := fun o => Cells.free (hR5.kept ((Kp.refl [] w5).alloc o)) 5
      have b0 := H5.out.2.1.box.cell 0
      have b1 := H5.out.2.1.box.cell 1
      have b2 := H5.out.2.1.box.cell 2
      have b3 := H5.out.2.1.box.cell 3
      have b4 := H5.out.2.1.box.cell 4
      have b5 := H5.out.2.1.box.cell 5
      have b6 := H5.out.2.1.box.cell 6
      have b7 := H5.out.2.1.box.cell 7
      have b8 := H5.out.2.1.box.cell 8
      have bb0 := fun o => (hk6 o).cell b0 (by simp; omega)
      have bb1 := fun o => (hk6 o).cell b1 (by simp; omega)
      have bb2 := fun o => (hk6 o).cell b2 (by simp; omega)
      have bb3 := fun o => (hk6 o).cell b3 (by simp; omega)
      have bb4 := fun o => (hk6 o).cell b4 (by simp; omega)
      have bb5 := fun o => (hk6 o).cell b5 (by simp; omega)
      have bb6 := fun o => (hk6 o).cell b6 (by simp; omega)
      have bb7 := fun o => (hk6 o).cell b7 (by simp; omega)
      have bb8 := fun o => (hk6 o).cell b8 (by simp; omega)
      have H6 : Hid (∀ o, Rd ((w5.alloc o).setCell ⟨R, 5, none⟩ (.bool false)) R exS 6 (n + 1) ∧ Ob R w.heap.size ((w5.alloc o).setCell ⟨R, 5, none⟩ (.bool false)) [] (.slice none 0 0) (.slice none 0 0) [] ∧ Kp [R] w ((w5.alloc o).setCell ⟨R, 5, none⟩ (.bool false))) :=
        hid fun o => ⟨(hR5.kept ((Kp.refl [] w5).alloc o)).big, H5.out.2.1.keep (hk6 o), H5.out.2.2.trans (hk6 o) (fun x hx _ => hx)⟩
      have qp := fun o => put_ob (H6.out o).2.1 [97] (by simp) (by decide) (.int .i64 4) (.int .u64 0) (.bool false) (.string ⟨#[49]⟩) (.int .i64 0) (.string ⟨#[]⟩) (.slice none 0 0) (.slice none 0 0) (.int .i64 0) (by intro u hu; simp only [List.mem_cons, List.not_mem_nil, or_false] at hu; rcases hu with rfl | rfl | rfl | rfl | rfl | rfl | rfl | rfl | rfl <;> rfl)
      clear q5 k5 hR5 c1 c3 f1 hk6 b0 b1 b2 b3 b4 b5 b6 b7 b8 c5
      go_wp2_with fail
      (with_reducible refine (qp _).mono ?_)
      rintro e w7 ⟨Ak, nk, ck, Ab, nb, cb, rfl, hbx7, hob7, k7, -⟩
      have H7 := hid (And.intro hob7 ((H6.out _).2.1.after (H6.out _).1 (H6.out _).2.2 k7 (.int .i64 7) (.int .u64 0) (.bool false) (.string ⟨#[]⟩) (.int .i64 0) (.string ⟨#[]⟩) (.slice Ak nk ck) (.slice Ab nb cb) (.int .i64 0)))
      have r0 := hbx7.cell 0
      have r1 := hbx7.cell 1
      have r2 := hbx7.cell 2
      have r3 := hbx7.cell 3
      have r4 := hbx7.cell 4
      have r5 := hbx7.cell 5
      have r6 := hbx7.cell 6
      have r7 := hbx7.cell 7
      have r8 := hbx7.cell 8
      have g0 := hbx7.free 0
      have g1 := hbx7.free 1
      have g2 := hbx7.free 2
      have g3 := hbx7.free 3
      have g4 := hbx7.free 4
      have g5 := hbx7.free 5
      have g6 := hbx7.free 6
      have g7 := hbx7.free 7
      have g8 := hbx7.free 8
      clear qp bb0 bb1 bb2 bb3 bb4 bb5 bb6 bb7 bb8 cc5 ff5 hob7 hbx7 k7 hne hne2 hRB
      go_wp2_with fail
      (with_reducible refine (q6 _ H7.out.2.1).mono ?_)
      rintro e w8 ⟨⟨v, rfl⟩, k8⟩
      have H8 := hid (And.intro (H7.out.2.1.kept k8) (And.intro (H7.out.1.kept k8) (H7.out.2.2.nil k8)))
      clear q6 k8 r0 r1 r2 r3 r4 r5 r6 r7 r8 g0 g1 g2 g3 g4 g5 g6 g7 g8
      go_wp2_with fail
      (with_reducible refine (q7 _ H8.out.1).mono ?_)
      rintro e w9 ⟨rfl, k9⟩
      have hR9 := H8.out.1.kept k9
      have c1 := hR9.cells.2.1
      have f1 := hR9.frees.1
      try simp only [Int.cast_ofNat_Int] at c1
      have hp9 : Kp [R] w9 (w9.setCell ⟨R, 1, none⟩ (.int .i64 7)) := kp_put (Kp.refl _ _) _ _ (.inr (by simp)) _
      have hR9' : Rd (w9.setCell ⟨R, 1, none⟩ (.int .i64 7)) R exS 7 (n + 1) := hR9.put 7
      have H9 := hid (And.intro hR9' (And.intro ((H8.out.2.1.kept k9).keep hp9) ((H8.out.2.2.nil k9).trans hp9 (fun x hx _ => hx))))
      clear q7 k9 hR9 hR9' hp9
      go_wp2_with fail
      go_roundw
      case rel => exact .inr ⟨rfl, H9.out.1, ⟨_, _, H9.out.2.1⟩, H9.out.2.2⟩
      case measure => simp [RowKit.intOf]
    focus
      have q1 := fun W (h : Rd W R exS 7 (n + 1)) => blanks_at W R exS 7 (n + 1) 34 h (exB 7 34 (by decide) rfl) (by decide)
      have q2 := fun W (h : Rd W R exS 7 (n + 1)) => quoted_at W R exS 7 (n + 1) 3 [98] h (by decide) (by decide) (by kernel_rfl) (by decide)
      have q3 := fun W (h : Rd W R exS 10 (n + 1)) => blanks_at W R exS 10 (n + 1) 58 h (exB 10 58 (by decide) rfl) (by decide)
      have q4 := fun W (h : Rd W R exS 10 (n + 1)) => next_at W R exS 10 (n + 1) 58 h (exB 10 58 (by decide) rfl)
      have q5 := fun W (h : Rd W R exS 11 (n + 1)) => value_list W R (n + 1) h (by omega)
      have q6 := fun W (h : Rd W R exS 14 (n + 1 + 2)) => blanks_at W R exS 14 (n + 1 + 2) 125 h (exB 14 125 (by decide) rfl) (by decide)
      have q7 := fun W (h : Rd W R exS 14 (n + 1 + 2)) => next_at W R exS 14 (n + 1 + 2) 125 h (exB 14 125 (by decide) rfl)
      try simp only [Int.cast_ofNat_Int] at q4
      try simp only [Int.cast_ofNat_Int] at q5
      try simp only [Int.cast_ofNat_Int] at q7
      have c3 := hRr.cells.2.2.2.1
      have H0 := hid (And.intro hRr (And.intro hob hkr))
      clear hRr hob hkr
      go_wp2_with fail
      (with_reducible refine (q1 _ H0.out.1).mono ?_)
      rintro e w1 ⟨⟨v, rfl⟩, k1⟩
      have H1 := hid (And.intro (H0.out.1.kept k1) (And.intro (H0.out.2.1.kept k1) (H0.out.2.2.nil k1)))
      have d0 := H1.out.2.1.box.cell 0
      clear k1 q1 c3
      go_wp2_with fail
      (with_reducible refine (q2 _ H1.out.1).mono ?_)
      rintro e w2 ⟨rfl, hR2, k2⟩
      have H2 := hid (And.intro hR2 (And.intro (H1.out.2.1.keep k2) (H1.out.2.2.trans k2 (fun x hx _ => hx))))
      clear k2 q2 d0 hR2
      go_wp2_with fail
      (with_reducible refine (q3 _ H2.out.1).mono ?_)
      rintro e w3 ⟨⟨v, rfl⟩, k3⟩
      have H3 := hid (And.intro (H2.out.1.kept k3) (And.intro (H2.out.2.1.kept k3) (H2.out.2.2.nil k3)))
      clear k3 q3
      go_wp2_with fail
      (with_reducible refine (q4 _ H3.out.1).mono ?_)
      rintro e w4 ⟨rfl, k4⟩
      have hR4 := H3.out.1.kept k4
      have hob4 := H3.out.2.1.kept k4
      have hk4 := H3.out.2.2.nil k4
      have hp4 : Kp [R] w4 (w4.setCell ⟨R, 1, none⟩ (.int .i64 11)) := kp_put (Kp.refl _ _) _ _ (.inr (by simp)) _
      have c1 := hR4.cells.2.1
      have c3 := hR4.cells.2.2.2.1
      have f1 := hR4.frees.1
      try simp only [Int.cast_ofNat_Int] at c1
      have hR4' : Rd (w4.setCell ⟨R, 1, none⟩ (.int .i64 11)) R exS 11 (n + 1) := hR4.put 11
      have H4 := hid (And.intro hR4' (And.intro (hob4.keep hp4) (hk4.trans hp4 (fun x hx _ => hx))))
      clear k4 q4 hR4 hob4 hk4 hp4 hR4'
      go_wp2_with fail
      (with_reducible refine (q5 _ H4.out.1).mono ?_)
      rintro e w5 ⟨G, cG, rfl, hR5, hoG, hG, k5⟩
      have hG2 : w.heap.size + 2 ≤ G ∧ vk.ownBlock ≠ some G ∧ vb.ownBlock ≠ some G := by
        have h1 := H4.out.2.1
        have h2 := (H4.out.2.1.rb)
        exact ⟨by have := h1.size; omega, fun e => by have := Own.lt h1.ok G e; omega, fun e => by have := OwnN.lt h1.ob G e; omega⟩
      have HG := hid (And.intro hoG hG2)
      clear hoG hG hG2
      have H5 := hid (And.intro hR5 (And.intro (H4.out.2.1.keep k5) (H4.out.2.2.trans k5 (fun x hx _ => hx))))
      have hk6 : ∀ o, Kp [R] w5 ((w5.alloc o).setCell ⟨R, 5, none⟩ (.bool false)) := fun o => kp_put ((Kp.refl _ _).alloc o) R 5 (.inr (by simp)) _
      have hRB := H5.out.2.1.rb
      have hne : R ≠ w5.heap.size := by have := H5.out.1.lt; omega
      have hne2 : w5.heap.size ≠ R := hne.symm
      have c5 := hR5.cells.2.2.2.2.2
      have cc5 := fun o => ((Kp.refl [] w5).alloc o).cell c5 (by simp)
      have ff5 := fun o => Cells.free (hR5.kept ((Kp.refl [] w5).alloc o)) 5
      have b0 := H5.out.2.1.box.cell 0
      have b1 := H5.out.2.1.box.cell 1
      have b2 := H5.out.2.1.box.cell 2
      have b3 := H5.out.2.1.box.cell 3
      have b4 := H5.out.2.1.box.cell 4
      have b5 := H5.out.2.1.box.cell 5
      have b6 := H5.out.2.1.box.cell 6
      have b7 := H5.out.2.1.box.cell 7
      have b8 := H5.out.2.1.box.cell 8
      have bb0 := fun o => (hk6 o).cell b0 (by simp; omega)
      have bb1 := fun o => (hk6 o).cell b1 (by simp; omega)
      have bb2 := fun o => (hk6 o).cell b2 (by simp; omega)
      have bb3 := fun o => (hk6 o).cell b3 (by simp; omega)
      have bb4 := fun o => (hk6 o).cell b4 (by simp; omega)
      have bb5 := fun o => (hk6 o).cell b5 (by simp; omega)
      have bb6 := fun o => (hk6 o).cell b6 (by simp; omega)
      have bb7 := fun o => (hk6 o).cell b7 (by simp; omega)
      have bb8 := fun o => (hk6 o).cell b8 (by simp; omega)
      have H6 : Hid (∀ o, Rd ((w5.alloc o).setCell ⟨R, 5, none⟩ (.bool false)) R exS 14 (n + 1 + 2) ∧ Ob R w.heap.size ((w5.alloc o).setCell ⟨R, 5, none⟩ (.bool false)) [[97]] vk vb (oneC 49) ∧ Kp [R] w ((w5.alloc o).setCell ⟨R, 5, none⟩ (.bool false))) :=
        hid fun o => ⟨(hR5.kept ((Kp.refl [] w5).alloc o)).big, H5.out.2.1.keep (hk6 o), H5.out.2.2.trans (hk6 o) (fun x hx _ => hx)⟩
      have qp := fun o => put_ob (H6.out o).2.1 [98] (by simp) (by decide) (.int .i64 6) (.int .u64 0) (.bool false) (.string ⟨#[]⟩) (.int .i64 0) (.string ⟨#[]⟩) (.slice none 0 0) (.slice (some ⟨G, 0, none⟩) 1 cG) (.int .i64 0) (by intro u hu; simp only [List.mem_cons, List.not_mem_nil, or_false] at hu; rcases hu with rfl | rfl | rfl | rfl | rfl | rfl | rfl | rfl | rfl <;> rfl)
      clear q5 k5 hR5 c1 c3 f1 hk6 b0 b1 b2 b3 b4 b5 b6 b7 b8 c5
      go_wp2_with fail
      (with_reducible refine (qp _).mono ?_)
      rintro e w7 ⟨Ak, nk, ck, Ab, nb, cb, rfl, hbx7, hob7, k7, hbn7⟩
      have H7 := hid (And.intro hob7 ((H6.out _).2.1.after (H6.out _).1 (H6.out _).2.2 k7 (.int .i64 7) (.int .u64 0) (.bool false) (.string ⟨#[]⟩) (.int .i64 0) (.string ⟨#[]⟩) (.slice Ak nk ck) (.slice Ab nb cb) (.int .i64 0)))
      have r0 := hbx7.cell 0
      have r1 := hbx7.cell 1
      have r2 := hbx7.cell 2
      have r3 := hbx7.cell 3
      have r4 := hbx7.cell 4
      have r5 := hbx7.cell 5
      have r6 := hbx7.cell 6
      have r7 := hbx7.cell 7
      have r8 := hbx7.cell 8
      have g0 := hbx7.free 0
      have g1 := hbx7.free 1
      have g2 := hbx7.free 2
      have g3 := hbx7.free 3
      have g4 := hbx7.free 4
      have g5 := hbx7.free 5
      have g6 := hbx7.free 6
      have g7 := hbx7.free 7
      have g8 := hbx7.free 8
      have hG7 : OwnN (nine w7 w.heap.size (.int .i64 7) (.int .u64 0) (.bool false) (.string ⟨#[]⟩) (.int .i64 0) (.string ⟨#[]⟩) (.slice Ak nk ck) (.slice Ab nb cb) (.int .i64 0)) 31 9 (.slice (some ⟨G, 0, none⟩) 1 cG) 1 (oneC 50) ∧ (Value.slice Ab nb cb).ownBlock ≠ some G := by
        have h2 := HG.out.2
        have hl := OwnN.lt HG.out.1 G rfl
        have hp : Kp [R] w5 _ := kp_put ((Kp.refl _ w5).alloc (.cells #[.int .i64 6, .int .u64 0, .bool false, .string ⟨#[]⟩, .int .i64 0, .string ⟨#[]⟩, .slice none 0 0, .slice (some ⟨G, 0, none⟩) 1 cG, .int .i64 0] 31)) R 5 (.inr (by simp)) (.bool false)
        have e1 := ((HG.out.1.keep hp (fun g hg hm => by injection hg with hg; subst hg; simp at hm; omega)).keep k7 (fun g hg hm => by
          injection hg with hg
          subst hg
          rcases List.mem_append.1 hm with hm | hm
          · exact h2.2.1 (by simpa using hm)
          · exact h2.2.2 (by simpa using hm))).keep (kp_nine (Kp.refl [w.heap.size] w7) w.heap.size (.inr (by simp)) (.int .i64 7) (.int .u64 0) (.bool false) (.string ⟨#[]⟩) (.int .i64 0) (.string ⟨#[]⟩) (.slice Ak nk ck) (.slice Ab nb cb) (.int .i64 0)) (fun g hg hm => by injection hg with hg; subst hg; simp at hm; omega)
        exact ⟨e1, hbn7 G h2.2.2 (by simp [World.setCell]; omega)⟩
      have HG7 := hid hG7
      clear hG7 hbn7
      clear qp bb0 bb1 bb2 bb3 bb4 bb5 bb6 bb7 bb8 cc5 ff5 hob7 hbx7 k7 hne hne2 hRB
      go_wp2_with fail
      (with_reducible refine (q6 _ H7.out.2.1).mono ?_)
      rintro e w8 ⟨⟨v, rfl⟩, k8⟩
      have H8 := hid (And.intro (H7.out.2.1.kept k8) (And.intro (H7.out.1.kept k8) (H7.out.2.2.nil k8)))
      have HG8 := hid (And.intro (HG7.out.1.kept k8) HG7.out.2)
      clear q6 k8 r0 r1 r2 r3 r4 r5 r6 r7 r8 g0 g1 g2 g3 g4 g5 g6 g7 g8
      go_wp2_with fail
      (with_reducible refine (q7 _ H8.out.1).mono ?_)
      rintro e w9 ⟨rfl, k9⟩
      have hR9 := H8.out.1.kept k9
      have c1 := hR9.cells.2.1
      have f1 := hR9.frees.1
      try simp only [Int.cast_ofNat_Int] at c1
      have hp9 : Kp [R] w9 (w9.setCell ⟨R, 1, none⟩ (.int .i64 15)) := kp_put (Kp.refl _ _) _ _ (.inr (by simp)) _
      have hR9' : Rd (w9.setCell ⟨R, 1, none⟩ (.int .i64 15)) R exS 15 (n + 1 + 2) := hR9.put 15
      have H9 := hid (And.intro hR9' (And.intro ((H8.out.2.1.kept k9).keep hp9) ((H8.out.2.2.nil k9).trans hp9 (fun x hx _ => hx))))
      have HG9 := hid (And.intro ((HG8.out.1.kept k9).keep hp9 (fun g hg hm => by injection hg with hg; subst hg; have := HG.out.2.1; have := H8.out.2.1.rb; simp at hm; omega)) HG8.out.2)
      clear q7 k9 hR9 hR9' hp9
      have hbB := H9.out.2.1.box
      have hroom := H9.out.2.1.room
      have b0 := hbB.cell 0
      have b1 := hbB.cell 1
      have b2 := hbB.cell 2
      have b3 := hbB.cell 3
      have b4 := hbB.cell 4
      have b5 := hbB.cell 5
      have b6 := hbB.cell 6
      have b7 := hbB.cell 7
      have b8 := hbB.cell 8
      obtain ⟨a0, a1, a2, a3, a4, a5, a6, a7, a8, ⟨r0, r1, r2, r3, r4, r5, r6, r7, r8⟩, ⟨g0, g1, g2, g3, g4, g5, g6, g7, g8⟩⟩ := hroom.cells
      clear hbB hroom
      go_wp2_with fail
      refine bodyPost_ret (v := .agg #[.int .i64 7, .int .u64 0, .bool false, .string ⟨#[]⟩, .int .i64 0, .string ⟨#[]⟩, .slice Ak nk ck, .slice Ab nb cb, .int .i64 0])
        (by simp [results, Tryd.results83, go_sem, r0, r1, r2, r3, r4, r5, r6, r7, r8]) rfl ⟨_, _, G, cG, rfl, ?_, ?_, ?_, ?_, ?_, ?_, ?_, ?_, ?_⟩
      all_goals have hob := H9.out.2.1
      all_goals have hrb := hob.rb
      all_goals have h9 := kp_nine (Kp.refl [w.heap.size + 1] (w9.setCell ⟨R, 1, none⟩ (.int .i64 15))) (w.heap.size + 1) (.inr (by simp)) (.int .i64 7) (.int .u64 0) (.bool false) (.string ⟨#[]⟩) (.int .i64 0) (.string ⟨#[]⟩) (.slice Ak nk ck) (.slice Ab nb cb) (.int .i64 0)
      · exact H9.out.1.keep h9 (by simp; omega)
      · exact Own.keep hob.ok h9 (fun g hg hm => by have := hob.nk g hg; simp at hm; omega)
      · exact hob.ob.keep h9 (fun g hg hm => by have := hob.nb g hg; simp at hm; omega)
      · exact HG9.out.1.keep h9 (fun g hg hm => by injection hg with hg; subst hg; have := HG.out.2.1; simp at hm; omega)
      · exact fun g hg => by have := hob.nk g hg; omega
      · exact fun g hg => by have := hob.nb g hg; omega
      · have := HG.out.2.1
        omega
      · exact HG9.out.2
      · exact kp_nine H9.out.2.2 _ (.inl (Nat.le_succ _)) _ _ _ _ _ _ _ _ _
end Go.Proofs.YtpeldjihalldkaaDoor
