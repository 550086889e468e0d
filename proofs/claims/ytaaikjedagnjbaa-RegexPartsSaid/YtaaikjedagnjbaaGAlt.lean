/- The reader's alt, by seq's contract; and so the three of them. -/
import Derived.Test.YtaaikjedagnjbaaGAltLaw
namespace Go.Proofs.Ytaaikjedagnjbaa
open Go Go.RowKit Go.Lib

set_option maxRecDepth 100000 in
set_option maxHeartbeats 12800000 in
theorem alt_of (n : Nat) (hA : SeqC n) : AltC (n + 1) := by
  intro w rb mb N E R M L d hn h hwt hd hL
  obtain ⟨gc, hgc⟩ : ∃ g, g = w.heap.size := ⟨_, rfl⟩
  obtain ⟨w0, hw0⟩ : ∃ w0, w0 = w.alloc (.cells #[.int .i64 0, .int .i64 0] 50) := ⟨_, rfl⟩
  have k0 : Kp [] w w0 := by rw [hw0]; exact (Kp.refl _ _).alloc _
  have c0 : Cells w0 gc 50 [.int .i64 0, .int .i64 0] := by rw [hw0, hgc]; exact Cells.fresh w 50 _
  have h0 : Ready w0 rb mb N E (fun x => R x ∨ x = gc) M L d false := h.move k0 (fun x hx => by
    rcases hx with hx | hx
    · exact .inl hx
    · exact .inr ⟨by omega, by rw [hx]; exact c0.lt⟩) (.inl h.rR)
  have hgE : ¬ E gc := h.fresh (by omega)
  have hgr : gc ≠ rb := fun e => absurd (h.lt rb h.rR) (by omega)
  have hgN : ¬ N gc := fun e => absurd (h.nE gc e).2 (by omega)
  have qs := hA w0 rb mb N E _ M L d (by omega) h0 hwt hd hL
  have hgw : w.heap.size ≤ gc := by omega
  have HH := hid (And.intro h (And.intro (Nat.le_of_lt_succ hn) (And.intro hgE (And.intro hgr (And.intro hgN hgw)))))
  have HB := hid (And.intro hwt (And.intro hL hd))
  have H0 := hid (And.intro h0 (And.intro c0 k0))
  have HW0 := hid hw0
  have HGC := hid hgc
  have HA := hid hA
  clear h h0 c0 hw0 hgc k0 hgE hgr hgN hwt hL hd hn hA hgw
  go_enter Try.func34, Try.ntmps34
  go_upto_region 1 with fail
  rw [← HW0.out]
  try rw [← HGC.out]
  clear HW0 HGC
  go_wp2_with fail
  (with_reducible refine qs.mono ?_)
  clear qs
  rintro e w1 hg
  obtain ⟨f, l, E1, M1, L1, d1, bad1, rfl, r1, K1, g1, g2, g3, g4, g5, g6, g7, g8, g9, g10⟩ := hg.ex
  clear hg
  have p1 := K1.cells H0.out.2.1 HH.out.2.2.1 HH.out.2.2.2.1
  have KK1 := (Rew.of_kept E rb H0.out.2.2).trans K1
  obtain ⟨gp, hgp⟩ : ∃ g, g = w1.heap.size := ⟨_, rfl⟩
  obtain ⟨w2, hw2⟩ : ∃ w2, w2 = w1.alloc (.cells #[.int .i64 (f : Int), .int .i64 (l : Int)] 50) := ⟨_, rfl⟩
  have k2 : Kp [] w1 w2 := by rw [hw2]; exact (Kp.refl _ _).alloc _
  have c2 : Cells w2 gp 50 [.int .i64 (f : Int), .int .i64 (l : Int)] := by rw [hw2, hgp]; exact Cells.fresh w1 50 _
  have hgc1 := p1.lt
  have r2 : Ready w2 rb mb N E1 (fun x => (R x ∨ x = gc) ∨ x = gp) M1 L1 d1 bad1 := r1.move k2 (fun x hx => by
    rcases hx with hx | hx
    · exact .inl hx
    · exact .inr ⟨by omega, by rw [hx]; exact c2.lt⟩) (.inl (.inl HH.out.1.rR))
  have HP : Hid (gc ≠ gp ∧ gp ≠ rb ∧ gp ≠ rb ∧ ¬ N gp ∧ w.heap.size ≤ gp) := hid ⟨by omega, fun e => absurd (r1.lt rb (.inl HH.out.1.rR)) (by omega), fun e => absurd (r1.lt rb (.inl HH.out.1.rR)) (by omega), fun e => absurd (r1.nE gp e).2 (by omega), by have := KK1.kq.size; omega⟩
  have HI := hid (And.intro r2 (And.intro (KK1.trans (Rew.of_kept E1 rb k2)) (And.intro (p1.keep k2 (by simp)) (And.intro c2 (alt_start g1 g2 g3 g4 g5 g6 g7 g8 g9 g10)))))
  have HW2 := hid hw2
  have HGP := hid hgp
  clear r1 p1 K1 KK1 hgp hw2 k2 c2 r2 g1 g2 g3 g4 g5 g6 g7 g8 g9 g10 hgc1
  unfold partV
  go_wp2_with fail
  rw [← HW2.out]
  try rw [← HGP.out]
  clear HW2 HGP
  go_loopg [4, 5, 6, 7, 8] 2000 (fun g _ _ _ _ _ wr => ∃ M1 Lr d1 bad pf pl Er, Ready wr rb mb N Er (fun x => (R x ∨ x = gc) ∨ x = gp) M1 Lr d1 bad ∧ Rew w E rb wr Er ∧ Cells wr gc 50 [.int .i64 0, .int .i64 0] ∧ Cells wr gp 50 [.int .i64 ((pf : Nat) : Int), .int .i64 ((pl : Nat) : Int)] ∧ AltI M d L M1 Lr d1 bad pf pl ∧ (if bad then 0 else Lr.length + 1) ≤ g)
  case atStart =>
    obtain ⟨i1, i2, i3, i4, i5⟩ := HI.out
    refine ⟨_, _, _, _, f, l, E1, i1, i2, i3, i4, i5, ?_⟩
    have := i5.left
    have := HB.out.2.1
    split <;> omega
  case round =>
    obtain ⟨M1, Lr, d1, bad, pf, pl, Er, rr, Kr, cr, pr, ai, hms⟩ := hrel
    have q3 := next_any wr rb mb N Lr d1 bad rr.rd ⟨#[124]⟩ (ascii_of _ (by decide)) (by decide)
    obtain ⟨ok, hok⟩ : ∃ b, b = hits (⟨#[124]⟩ : ByteArray).data.toList bad Lr := ⟨_, rfl⟩
    rw [← hok] at q3
    obtain ⟨sg, hsg⟩ : ∃ p, p = peekR bad Lr := ⟨_, rfl⟩
    rw [← hsg] at q3
    have HR := hid (And.intro rr (And.intro Kr (And.intro cr (And.intro pr (And.intro ai hok)))))
    have HMS := hid hms
    clear rr Kr cr pr ai hms HI hok hsg
    go_wp2_with fail
    (with_reducible refine q3.mono ?_)
    clear q3
    rintro e w3 ⟨rfl, rd3, k3⟩
    have HC := hid (And.intro (HR.out.1.read k3 rd3) (And.intro (HR.out.2.1.trans (Rew.of_kp Er rb k3)) (And.intro (HR.out.2.2.1.keep k3 (by simpa using HH.out.2.2.2.1)) (And.intro (HR.out.2.2.2.1.keep k3 (by simpa using HP.out.2.1)) HR.out.2.2.2.2))))
    clear HR rd3 k3
    cases ok with
    | false =>
      have s0 := HC.out.2.2.2.1.cell 0
      have s1 := HC.out.2.2.2.1.cell 1
      simp only [List.getElem?_cons_zero, List.getElem?_cons_succ] at s0 s1
      obtain ⟨w6, hw6, r6, K6, c6⟩ := Ready.result (R := R) (HC.out.1.less (R' := fun x => R x ∨ x = gc) (fun x hx => .inl hx) (.inl HH.out.1.rR)) HH.out.1.rR HH.out.2.2.2.1 HH.out.2.2.2.2.1 HH.out.2.2.2.2.2 HC.out.2.1 HC.out.2.2.1 (.int .i64 (pf : Int)) (.int .i64 (pl : Int))
      have HE := hid (And.intro r6 (And.intro K6 c6))
      have HY := hid hw6
      have y0 := HC.out.2.2.1.cell 0
      have y1 := HC.out.2.2.1.cell 1
      have f0 := HC.out.2.2.1.free 0
      have f1 := HC.out.2.2.1.free 1
      simp only [List.getElem?_cons_zero, List.getElem?_cons_succ] at y0 y1
      clear r6 K6 c6 hw6
      go_wp2_with fail
      rw [← HY.out]
      refine bodyPost_ret (results_cell_row rfl _ _ gc 50 _ _ _ rfl HE.out.2.2 Try.underlying50 rfl (by kernel_rfl)) rfl ?_
      obtain ⟨i1, i2, i3, i4, i5, i6, i7, i8, i9, i10⟩ := HC.out.2.2.2.2.1
      have hok := HC.out.2.2.2.2.2
      have he1 := HE.out.1
      simp only [Bool.false_eq_true, if_false] at he1
      refine ⟨pf, pl, Er, M1, Lr, d1, bad, rfl, he1, HE.out.2.1, i1, i2, i3, i4, by omega, i6, i7, i8, ?_⟩
      cases bad with
      | true =>
        rw [i9 rfl]
        exact ⟨rfl, fun re r e => by cases e⟩
      | false =>
        obtain ⟨e1, acc, e2, hf⟩ := i10 rfl
        rw [e2, bar_stop hok.symm]
        refine ⟨rfl, fun re r e => ?_⟩
        injection e with e
        injection e with e3 e4
        subst e3 e4
        exact ⟨e1, rfl, hf⟩
    | true =>
      obtain ⟨hbad, r, hLr⟩ : bad = false ∧ ∃ r, Lr = 124 :: r := by
        have hok := HC.out.2.2.2.2.2
        cases Lr with
        | nil => cases hok
        | cons c r =>
          have hok : true = (!bad && ([124] : List UInt8).any fun b => b.toNat == c) := hok
          simp at hok
          exact ⟨hok.1, r, by rw [hok.2]⟩
      subst hbad hLr
      obtain ⟨rfl, -⟩ := HC.out.2.2.2.2.1.yes rfl
      have hrc := HC.out.1
      simp only [if_true, List.tail_cons] at hrc
      have hsz := HC.out.2.2.2.2.1.size
      have hlf := HC.out.2.2.2.2.1.left
      have hb := HB.out
      simp only [List.length_cons] at hsz hlf
      have qa := HA.out w3 rb mb N Er _ M1 r d1 (by have := HH.out.2.1; omega) hrc (by omega) hb.2.2 (by omega)
      have HRC := hid hrc
      clear hsz hlf hb hrc
      go_wp2_with fail
      (with_reducible refine qa.mono ?_)
      clear qa
      rintro e w5 hg
      obtain ⟨f, l, E5, M5, L5, d5, bad5, rfl, r5, K5, g1, g2, g3, g4, g5, g6, g7, g8, g9, g10⟩ := hg.ex
      clear hg
      have cc5 := K5.cells HC.out.2.2.1 (fun h => HRC.out.mach.apart _ h (.inl (.inr rfl))) HH.out.2.2.2.1
      have cp5 := K5.cells HC.out.2.2.2.1 (fun h => HRC.out.mach.apart _ h (.inr rfl)) HP.out.2.1
      have KK5 := HC.out.2.1.trans K5
      obtain ⟨gq, hgq⟩ : ∃ g, g = w5.heap.size := ⟨_, rfl⟩
      obtain ⟨w6, hw6⟩ : ∃ w6, w6 = w5.alloc (.cells #[.int .i64 (f : Int), .int .i64 (l : Int)] 50) := ⟨_, rfl⟩
      have k6 : Kp [] w5 w6 := by rw [hw6]; exact (Kp.refl _ _).alloc _
      have c6 : Cells w6 gq 50 [.int .i64 (f : Int), .int .i64 (l : Int)] := by rw [hw6, hgq]; exact Cells.fresh w5 50 _
      have r6 := r5.kept k6
      have hgqE : ¬ E5 gq := r5.fresh (by omega)
      have hszz := HC.out.2.2.2.2.1.size
      have hb1 := HB.out.1
      simp only [List.length_cons] at hszz
      have hai := alt_round HC.out.2.2.2.2.1 g1 g2 g5 g6 g7 g8 g9 g10
      have hpl5 : pl < M5.length := Nat.lt_of_lt_of_le HC.out.2.2.2.2.1.last g2
      have HG : Hid (AltI M d1 L (barM M5 pf pl f l) L5 d5 bad5 (M5.length + 1) M5.length ∧ L5.length < (124 :: r).length ∧ wt M5 ≤ 900000 ∧ l < M5.length ∧ pl < M5.length) := hid ⟨hai, by simp only [List.length_cons]; omega, by omega, g4, hpl5⟩
      have HLN : Hid (M5.length + 1 ≤ 1000000) := hid (by have := wt_len M5; omega)
      have qn := add_any w6 w6 mb E5 _ M5 r6.mach (by have := HLN.out; omega) (Kp.refl _ _) r6.lt (.slice none 0 0) [] (Own.nil _ _) (by intro g hg; cases hg)
      obtain ⟨A7, c7, hc7, -, -, -, -⟩ := r6.rd.ex
      obtain ⟨n7, hn7⟩ : ∃ n, n = L5.length := ⟨_, rfl⟩
      rw [← hn7] at hc7
      have z0 := hc7.cell 0
      simp only [List.getElem?_cons_zero] at z0
      have H6 := hid (And.intro r6 (And.intro c6 (And.intro (cp5.keep k6 (by simp)) (And.intro (cc5.keep k6 (by simp)) (And.intro (KK5.trans (Rew.of_kept E5 rb k6)) hgqE)))))
      have HCR6 := hid hc7
      have HN7 := hid hn7
      have HW6 := hid hw6
      have HGQ := hid hgq
      clear r5 K5 g1 g2 g3 g4 g5 g6 g7 g8 g9 g10 cc5 cp5 KK5 hgq hw6 k6 c6 r6 hgqE hszz hb1 hai hpl5 hc7 hn7 HC HRC
      unfold partV
      go_upto_region 6 with fail
      rw [← HW6.out]
      try rw [← HGQ.out]
      clear HW6 HGQ
      go_wp2_with fail
      (with_reducible refine qn.mono ?_)
      clear qn z0
      rintro e w7 ⟨rfl, E7, m7, g7⟩
      have hRg : ∀ x, (R x ∨ x = gc) ∨ x = gp → ¬ E5 x := fun x hx h => H6.out.1.mach.apart _ h hx
      have H7 := hid (And.intro (H6.out.1.grew m7 g7) (And.intro (g7.kq.cells H6.out.2.1 H6.out.2.2.2.2.2) (And.intro (g7.kq.cells H6.out.2.2.1 (hRg _ (.inr rfl))) (And.intro (g7.kq.cells H6.out.2.2.2.1 (hRg _ (.inl (.inr rfl)))) (And.intro (H6.out.2.2.2.2.1.trans (Rew.of_grew rb g7)) (g7.out H6.out.2.1.lt H6.out.2.2.2.2.2))))))
      have HCR := hid (g7.kq.cells HCR6.out (hRg _ (.inl (.inl HH.out.1.rR))))
      have H7C := hid (And.intro HCR.out (And.intro H7.out.2.2.1 H7.out.2.1))
      clear m7 g7 hRg H6 HCR6
      go_upto_region 7 with fail
      refine lin_start (fun W' => (Cells W' rb 69 [.pointer (some ⟨mb, 0, none⟩), .slice A7 n7 c7, .int .i64 (d5 : Int), .bool bad5] ∧ Cells W' gp 50 [.int .i64 (pf : Int), .int .i64 (pl : Int)]) ∧ Cells W' gq 50 [.int .i64 (f : Int), .int .i64 (l : Int)]) (((Stays.cells _ _ _).and (Stays.cells _ _ _)).and (Stays.cells _ _ _)) (by kernel_rfl) ⟨⟨Cells.drew HCR.out, Cells.drew H7.out.2.2.1⟩, Cells.drew H7.out.2.1⟩ (fun hSS hS => ?_)
      refine lin_val (i := 0) (v := ?_) rfl (by kernel_rfl) (by kernel_rfl) (by kernel_rfl) (by kernel_rfl) (fun _ _ _ h => h) hSS hS rfl (fun W' hSw => ?_) ?_
      rotate_left
      · go_simp; first | done | with_reducible rfl
      try simp only [Act.put, List.setIfInBounds_toArray, List.set_cons_zero, List.set_cons_succ]
      refine lin_val (i := 1) (v := ?_) rfl (by kernel_rfl) (by kernel_rfl) (by kernel_rfl) (by kernel_rfl) (fun _ _ _ h => h) hSS hS rfl (fun W' hSw => ?_) ?_
      rotate_left
      · go_simp; first | done | with_reducible rfl
      try simp only [Act.put, List.setIfInBounds_toArray, List.set_cons_zero, List.set_cons_succ]
      refine lin_val (i := 2) (v := ?_) rfl (by kernel_rfl) (by kernel_rfl) (by kernel_rfl) (by kernel_rfl) (fun _ _ _ h => h) hSS hS rfl (fun W' hSw => ?_) ?_
      rotate_left
      · go_simp; first | done | with_reducible rfl
      try simp only [Act.put, List.setIfInBounds_toArray, List.set_cons_zero, List.set_cons_succ]
      refine lin_val (i := 3) (v := ?_) rfl (by kernel_rfl) (by kernel_rfl) (by kernel_rfl) (by kernel_rfl) (fun _ _ _ h => h) hSS hS rfl (fun W' hSw => ?_) ?_
      rotate_left
      · have x0 := hSw.1.1.cell 0; simp only [List.getElem?_cons_zero, List.getElem?_cons_succ] at x0; go_simp; first | done | with_reducible rfl
      try simp only [Act.put, List.setIfInBounds_toArray, List.set_cons_zero, List.set_cons_succ]
      refine lin_val (i := 4) (v := ?_) rfl (by kernel_rfl) (by kernel_rfl) (by kernel_rfl) (by kernel_rfl) (fun _ _ _ h => h) hSS hS rfl (fun W' hSw => ?_) ?_
      rotate_left
      · go_simp; first | done | with_reducible rfl
      try simp only [Act.put, List.setIfInBounds_toArray, List.set_cons_zero, List.set_cons_succ]
      refine lin_val (i := 5) (v := ?_) rfl (by kernel_rfl) (by kernel_rfl) (by kernel_rfl) (by kernel_rfl) (fun _ _ _ h => h) hSS hS rfl (fun W' hSw => ?_) ?_
      rotate_left
      · have p0 := hSw.1.2.cell 0; simp only [List.getElem?_cons_zero, List.getElem?_cons_succ] at p0; go_simp; first | done | with_reducible rfl
      try simp only [Act.put, List.setIfInBounds_toArray, List.set_cons_zero, List.set_cons_succ]
      refine lin_val (i := 6) (v := ?_) rfl (by kernel_rfl) (by kernel_rfl) (by kernel_rfl) (by kernel_rfl) (fun _ _ _ h => h) hSS hS rfl (fun W' hSw => ?_) ?_
      rotate_left
      · go_simp; first | done | with_reducible rfl
      try simp only [Act.put, List.setIfInBounds_toArray, List.set_cons_zero, List.set_cons_succ]
      refine lin_val (i := 7) (v := ?_) rfl (by kernel_rfl) (by kernel_rfl) (by kernel_rfl) (by kernel_rfl) (fun _ _ _ h => h) hSS hS rfl (fun W' hSw => ?_) ?_
      rotate_left
      · have q0 := hSw.2.cell 0; simp only [List.getElem?_cons_zero, List.getElem?_cons_succ] at q0; go_simp; first | done | with_reducible rfl
      try simp only [Act.put, List.setIfInBounds_toArray, List.set_cons_zero, List.set_cons_succ]
      refine lin_list (i := 8) (by kernel_rfl) rfl (fun w8 k8 Q2 hQ => ?_)
      have k78 : Kp [] w7 w8 := (Kp.refl _ _).drew.nil k8
      obtain ⟨w9, hw9⟩ : ∃ w9, w9 = w8.alloc (.cells #[.int .i64 (pf : Int), .int .i64 (f : Int)] 3) := ⟨_, rfl⟩
      have k9 : Kp [] w8 w9 := by rw [hw9]; exact (Kp.refl _ _).alloc _
      have c9 : Cells w9 w8.heap.size 3 [.int .i64 (pf : Int), .int .i64 (f : Int)] := by rw [hw9]; exact Cells.fresh w8 3 _
      have H8 := hid (And.intro k78 (And.intro k9 c9))
      have HW9 := hid hw9
      obtain ⟨g8, hg8⟩ : ∃ g, g = w8.heap.size := ⟨_, rfl⟩
      have HG8 := hid hg8
      clear k8 k78 k9 c9 hw9 hg8
      go_wp2_with fail
      refine hQ.out _ _ ⟨⟨(H7C.out.1.keep H8.out.1 (by simp)).alloc _, (H7C.out.2.1.keep H8.out.1 (by simp)).alloc _⟩, (H7C.out.2.2.keep H8.out.1 (by simp)).alloc _⟩ (fun hS9 => ?_)
      clear hQ hS
      rw [← HW9.out] at hS9 ⊢
      try rw [← HG8.out]
      try simp only [Act.put, List.setIfInBounds_toArray, List.set_cons_zero, List.set_cons_succ]
      refine lin_list (i := 9) (by kernel_rfl) rfl (fun w10 k10 Q2 hQ => ?_)
      have hk810 := H8.out.2.1.nil k10
      have r8 := H7.out.1.kept H8.out.1
      have c10 := H8.out.2.2.keep k10 (by simp)
      rw [← HG8.out] at c10
      have qf := add_any w8 w10 mb E7 _ _ r8.mach (by rw [List.length_append, List.length_singleton]; exact HLN.out) hk810 r8.lt (.slice (some ⟨g8, 0, none⟩) 2 2) [pf, f] (Own.of_cells c10 (by simp [ints])) (by intro g hg; have hg : some g8 = some g := hg; injection hg with hg; have := HG8.out; omega)
      rw [show (M5 ++ [(⟨none, none, []⟩ : St)]).length = M5.length + 1 by simp] at qf
      have H10 := hid (And.intro hk810 r8)
      clear k10 hk810 r8 c10
      go_wp2_with fail
      (with_reducible refine qf.mono ?_)
      clear qf
      rintro e w11 ⟨rfl, E11, m11, g11⟩
      have r11 := H10.out.2.grew m11 g11
      have hRg : ∀ x, (R x ∨ x = gc) ∨ x = gp → ¬ E7 x := fun x hx h => H7.out.1.mach.apart _ h hx
      have cr11 := g11.kq.cells (H7C.out.1.keep H8.out.1 (by simp)) (hRg _ (.inl (.inl HH.out.1.rR)))
      have cp11 := g11.kq.cells (H7C.out.2.1.keep H8.out.1 (by simp)) (hRg _ (.inr rfl))
      have cq11 := g11.kq.cells (H7C.out.2.2.keep H8.out.1 (by simp)) H7.out.2.2.2.2.2
      have cc11 := g11.kq.cells (H7.out.2.2.2.1.keep H8.out.1 (by simp)) (hRg _ (.inl (.inr rfl)))
      have hq11 := g11.out (Nat.lt_of_lt_of_le H7.out.2.1.lt H8.out.1.size) H7.out.2.2.2.2.2
      have K11 := (H7.out.2.2.2.2.1.trans (Rew.of_kept E7 rb H8.out.1)).trans (Rew.of_grew rb g11)
      have H11 := hid (And.intro r11 (And.intro cq11 (And.intro cp11 (And.intro cc11 (And.intro K11 hq11)))))
      clear r11 m11 g11 cc11 K11 hq11 hRg
      go_wp2_with fail
      refine hQ.out _ _ ⟨⟨cr11, cp11⟩, cq11⟩ (fun hS11 => ?_)
      clear hQ cr11 cp11 cq11 hS9
      try simp only [Act.put, List.setIfInBounds_toArray, List.set_cons_zero, List.set_cons_succ]
      refine lin_last (i := 10) (by kernel_rfl) rfl (by kernel_rfl) (fun w12 k12 K hK => ?_)
      have r12 := H11.out.1.kept k12
      have H12 := hid (And.intro r12 (And.intro (H11.out.2.1.keep k12 (by simp)) (And.intro (H11.out.2.2.1.keep k12 (by simp)) (And.intro (H11.out.2.2.2.1.keep k12 (by simp)) (And.intro (H11.out.2.2.2.2.1.trans (Rew.of_kept E11 rb k12)) H11.out.2.2.2.2.2)))))
      clear k12 r12
      go_simp
      refine hK.out _ _ ?_
      clear hK K hS11 hSS
      obtain ⟨Aa, ca, hca, -, -, -, -⟩ := H12.out.1.rd.ex
      have x0 := hca.cell 0
      have p1 := H12.out.2.2.1.cell 1
      have q1 := H12.out.2.1.cell 1
      simp only [List.getElem?_cons_zero, List.getElem?_cons_succ] at x0 p1 q1
      clear hca Aa ca
      go_upto_region 8 with fail
      refine lin_start (fun W' => Kp [] w12 W') (Stays.kp _ _) (by kernel_rfl) (Kp.refl _ _).drew (fun hSS hS => ?_)
      refine lin_val (i := 0) (v := ?_) rfl (by kernel_rfl) (by kernel_rfl) (by kernel_rfl) (by kernel_rfl) (fun _ _ _ h => h) hSS hS rfl (fun W' hSw => ?_) ?_
      rotate_left
      · go_simp; first | done | with_reducible rfl
      try simp only [Act.put, List.setIfInBounds_toArray, List.set_cons_zero, List.set_cons_succ]
      refine lin_val (i := 1) (v := ?_) rfl (by kernel_rfl) (by kernel_rfl) (by kernel_rfl) (by kernel_rfl) (fun _ _ _ h => h) hSS hS rfl (fun W' hSw => ?_) ?_
      rotate_left
      · go_simp; first | done | with_reducible rfl
      try simp only [Act.put, List.setIfInBounds_toArray, List.set_cons_zero, List.set_cons_succ]
      refine lin_val (i := 2) (v := ?_) rfl (by kernel_rfl) (by kernel_rfl) (by kernel_rfl) (by kernel_rfl) (fun _ _ _ h => h) hSS hS rfl (fun W' hSw => ?_) ?_
      rotate_left
      · go_simp; first | done | with_reducible rfl
      try simp only [Act.put, List.setIfInBounds_toArray, List.set_cons_zero, List.set_cons_succ]
      refine lin_val (i := 3) (v := ?_) rfl (by kernel_rfl) (by kernel_rfl) (by kernel_rfl) (by kernel_rfl) (fun _ _ _ h => h) hSS hS rfl (fun W' hSw => ?_) ?_
      rotate_left
      · have x0 := hSw.cell x0 (by simp); go_simp; first | done | with_reducible rfl
      try simp only [Act.put, List.setIfInBounds_toArray, List.set_cons_zero, List.set_cons_succ]
      refine lin_val (i := 4) (v := ?_) rfl (by kernel_rfl) (by kernel_rfl) (by kernel_rfl) (by kernel_rfl) (fun _ _ _ h => h) hSS hS rfl (fun W' hSw => ?_) ?_
      rotate_left
      · go_simp; first | done | with_reducible rfl
      try simp only [Act.put, List.setIfInBounds_toArray, List.set_cons_zero, List.set_cons_succ]
      refine lin_val (i := 5) (v := ?_) rfl (by kernel_rfl) (by kernel_rfl) (by kernel_rfl) (by kernel_rfl) (fun _ _ _ h => h) hSS hS rfl (fun W' hSw => ?_) ?_
      rotate_left
      · have p1 := hSw.cell p1 (by simp); go_simp; first | done | with_reducible rfl
      try simp only [Act.put, List.setIfInBounds_toArray, List.set_cons_zero, List.set_cons_succ]
      refine lin_val (i := 6) (v := ?_) rfl (by kernel_rfl) (by kernel_rfl) (by kernel_rfl) (by kernel_rfl) (fun _ _ _ h => h) hSS hS rfl (fun W' hSw => ?_) ?_
      rotate_left
      · go_simp; first | done | with_reducible rfl
      try simp only [Act.put, List.setIfInBounds_toArray, List.set_cons_zero, List.set_cons_succ]
      refine lin_listLast (i := 7) (by kernel_rfl) rfl (by kernel_rfl) (fun wz kz Q2 hQ => ?_)
      have kz' : Kp [] w12 wz := (Kp.refl _ _).drew.nil kz
      have rz := H12.out.1.kept kz'
      have qt := toM_any wz mb E11 _ ((M5 ++ [⟨none, none, []⟩]) ++ [⟨none, none, [pf, f]⟩]) rz.mach (by rw [wt_append, wt_append]; have := HG.out.2.2.1; show wt M5 + 1 + 3 ≤ 1000000; omega) rz.lt pl M5.length (by rw [List.length_append, List.length_append]; have := HG.out.2.2.2.2; omega)
      have HZ := hid (And.intro rz kz')
      clear kz kz' rz hS hSS x0 p1 q1
      go_wp2_with fail
      (with_reducible refine qt.mono ?_)
      clear qt
      rintro e w13 ⟨rfl, E13, mz, gz⟩
      have hRg : ∀ x, (R x ∨ x = gc) ∨ x = gp → ¬ E11 x := fun x hx h => H12.out.1.mach.apart _ h hx
      have H13 := hid (And.intro (HZ.out.1.grew mz gz) (And.intro (gz.kq.cells (H12.out.2.1.keep HZ.out.2 (by simp)) H12.out.2.2.2.2.2) (And.intro (gz.kq.cells (H12.out.2.2.1.keep HZ.out.2 (by simp)) (hRg _ (.inr rfl))) (And.intro (gz.kq.cells (H12.out.2.2.2.1.keep HZ.out.2 (by simp)) (hRg _ (.inl (.inr rfl)))) (And.intro ((H12.out.2.2.2.2.1.trans (Rew.of_kept E11 rb HZ.out.2)).trans (Rew.of_grew rb gz)) (gz.out (Nat.lt_of_lt_of_le H12.out.2.1.lt HZ.out.2.size) H12.out.2.2.2.2.2))))))
      clear mz gz hRg HZ
      go_wp2_with fail
      refine hQ.out _ _ ?_
      clear hQ
      obtain ⟨Aa, ca, hca, -, -, -, -⟩ := H13.out.1.rd.ex
      have x0 := hca.cell 0
      have p1 := H13.out.2.2.1.cell 1
      have q1 := H13.out.2.1.cell 1
      simp only [List.getElem?_cons_zero, List.getElem?_cons_succ] at x0 p1 q1
      clear hca Aa ca
      go_upto_region 9 with fail
      refine lin_start (fun W' => Kp [] w13 W') (Stays.kp _ _) (by kernel_rfl) (Kp.refl _ _).drew (fun hSS hS => ?_)
      refine lin_val (i := 0) (v := ?_) rfl (by kernel_rfl) (by kernel_rfl) (by kernel_rfl) (by kernel_rfl) (fun _ _ _ h => h) hSS hS rfl (fun W' hSw => ?_) ?_
      rotate_left
      · go_simp; first | done | with_reducible rfl
      try simp only [Act.put, List.setIfInBounds_toArray, List.set_cons_zero, List.set_cons_succ]
      refine lin_val (i := 1) (v := ?_) rfl (by kernel_rfl) (by kernel_rfl) (by kernel_rfl) (by kernel_rfl) (fun _ _ _ h => h) hSS hS rfl (fun W' hSw => ?_) ?_
      rotate_left
      · go_simp; first | done | with_reducible rfl
      try simp only [Act.put, List.setIfInBounds_toArray, List.set_cons_zero, List.set_cons_succ]
      refine lin_val (i := 2) (v := ?_) rfl (by kernel_rfl) (by kernel_rfl) (by kernel_rfl) (by kernel_rfl) (fun _ _ _ h => h) hSS hS rfl (fun W' hSw => ?_) ?_
      rotate_left
      · go_simp; first | done | with_reducible rfl
      try simp only [Act.put, List.setIfInBounds_toArray, List.set_cons_zero, List.set_cons_succ]
      refine lin_val (i := 3) (v := ?_) rfl (by kernel_rfl) (by kernel_rfl) (by kernel_rfl) (by kernel_rfl) (fun _ _ _ h => h) hSS hS rfl (fun W' hSw => ?_) ?_
      rotate_left
      · have x0 := hSw.cell x0 (by simp); go_simp; first | done | with_reducible rfl
      try simp only [Act.put, List.setIfInBounds_toArray, List.set_cons_zero, List.set_cons_succ]
      refine lin_val (i := 4) (v := ?_) rfl (by kernel_rfl) (by kernel_rfl) (by kernel_rfl) (by kernel_rfl) (fun _ _ _ h => h) hSS hS rfl (fun W' hSw => ?_) ?_
      rotate_left
      · go_simp; first | done | with_reducible rfl
      try simp only [Act.put, List.setIfInBounds_toArray, List.set_cons_zero, List.set_cons_succ]
      refine lin_val (i := 5) (v := ?_) rfl (by kernel_rfl) (by kernel_rfl) (by kernel_rfl) (by kernel_rfl) (fun _ _ _ h => h) hSS hS rfl (fun W' hSw => ?_) ?_
      rotate_left
      · have q1 := hSw.cell q1 (by simp); go_simp; first | done | with_reducible rfl
      try simp only [Act.put, List.setIfInBounds_toArray, List.set_cons_zero, List.set_cons_succ]
      refine lin_val (i := 6) (v := ?_) rfl (by kernel_rfl) (by kernel_rfl) (by kernel_rfl) (by kernel_rfl) (fun _ _ _ h => h) hSS hS rfl (fun W' hSw => ?_) ?_
      rotate_left
      · go_simp; first | done | with_reducible rfl
      try simp only [Act.put, List.setIfInBounds_toArray, List.set_cons_zero, List.set_cons_succ]
      refine lin_listLast (i := 7) (by kernel_rfl) rfl (by kernel_rfl) (fun wz kz Q2 hQ => ?_)
      have kz' : Kp [] w13 wz := (Kp.refl _ _).drew.nil kz
      have rz := H13.out.1.kept kz'
      have qt := toM_any wz mb E13 _ (goTo ((M5 ++ [⟨none, none, []⟩]) ++ [⟨none, none, [pf, f]⟩]) pl M5.length) rz.mach (by refine Nat.le_trans (goTo_wt _ _ _) ?_; rw [wt_append, wt_append]; have := HG.out.2.2.1; show wt M5 + 1 + 3 + 1 ≤ 1000000; omega) rz.lt l M5.length (by rw [goTo_len, List.length_append, List.length_append]; have := HG.out.2.2.2.1; omega)
      have HZ := hid (And.intro rz kz')
      clear kz kz' rz hS hSS x0 p1 q1
      go_wp2_with fail
      (with_reducible refine qt.mono ?_)
      clear qt
      rintro e w14 ⟨rfl, E14, mz, gz⟩
      have hRg : ∀ x, (R x ∨ x = gc) ∨ x = gp → ¬ E13 x := fun x hx h => H13.out.1.mach.apart _ h hx
      have H14 := hid (And.intro (HZ.out.1.grew mz gz) (And.intro (gz.kq.cells (H13.out.2.1.keep HZ.out.2 (by simp)) H13.out.2.2.2.2.2) (And.intro (gz.kq.cells (H13.out.2.2.1.keep HZ.out.2 (by simp)) (hRg _ (.inr rfl))) (And.intro (gz.kq.cells (H13.out.2.2.2.1.keep HZ.out.2 (by simp)) (hRg _ (.inl (.inr rfl)))) (And.intro ((H13.out.2.2.2.2.1.trans (Rew.of_kept E13 rb HZ.out.2)).trans (Rew.of_grew rb gz)) (gz.out (Nat.lt_of_lt_of_le H13.out.2.1.lt HZ.out.2.size) H13.out.2.2.2.2.2))))))
      clear mz gz hRg HZ
      go_wp2_with fail
      refine hQ.out _ _ ?_
      clear hQ
      obtain ⟨w15, hw15⟩ : ∃ w15, w15 = (w14.setCell ⟨gp, 0, none⟩ (.int .i64 ((M5.length : Int) + 1))).setCell ⟨gp, 1, none⟩ (.int .i64 (M5.length : Int)) := ⟨_, rfl⟩
      have k15 : Kp [gp] w14 w15 := by rw [hw15]; exact ((Kp.refl _ _).setCell (fun _ => by simp) _).setCell (fun _ => by simp) _
      have r15 := H14.out.1.wrote k15 (.inr rfl) HP.out.2.2.1 HP.out.2.2.2.1
      have cp15 : Cells w15 gp 50 [.int .i64 ((M5.length : Int) + 1), .int .i64 (M5.length : Int)] := by rw [hw15]; exact (H14.out.2.2.1.put 0 _).put 1 _
      have cc15 := H14.out.2.2.2.1.keep k15 (by simpa using HP.out.1)
      have K15 := H14.out.2.2.2.2.1.fresh k15 HP.out.2.2.2.2
      have H15 := hid (And.intro r15 (And.intro K15 (And.intro cc15 cp15)))
      have HW15 := hid hw15
      have p0 := H14.out.2.2.1.cell 0
      have p1 := H14.out.2.2.1.cell 1
      have u0 := H14.out.2.2.1.free 0
      have u1 := H14.out.2.2.1.free 1
      simp only [List.getElem?_cons_zero, List.getElem?_cons_succ] at p0 p1
      clear hw15 k15 r15 cp15 cc15 K15
      go_wp2_with fail
      rw [← HW15.out]
      clear HW15
      go_roundg (gk - 1)
      case measure => have := HMS.out; simp only [Bool.false_eq_true, if_false] at this; omega
      case rel =>
        refine ⟨_, L5, d5, bad5, M5.length + 1, M5.length, E14, H15.out.1, H15.out.2.1, H15.out.2.2.1, H15.out.2.2.2, HG.out.1, ?_⟩
        have := HMS.out
        have := HG.out.2.1
        simp only [Bool.false_eq_true, if_false] at *
        split <;> omega
/-- A text is read as an alt: what it means, and what is left; or it is none, and the reader is marked. -/
theorem alt_all : ∀ n : Nat, AltC n
  | 0 => fun _ _ _ _ _ _ _ _ _ hn => absurd hn (Nat.not_lt_zero _)
  | n + 1 => alt_of n (seq_of n (atom_of n (alt_all n)))
end Go.Proofs.Ytaaikjedagnjbaa
