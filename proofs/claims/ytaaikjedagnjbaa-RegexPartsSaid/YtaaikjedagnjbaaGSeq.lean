/- The reader's seq, by atom's contract. -/
import Derived.Test.YtaaikjedagnjbaaGSeqLaw
import Derived.Test.YtaaikjedagnjbaaGLin
namespace Go.Proofs.Ytaaikjedagnjbaa
open Go Go.RowKit Go.Lib

/-- What seq does for a text of at most n runes. -/
def SeqC (n : Nat) : Prop := ∀ (w : World) (rb mb : Nat) (N E R : Nat → Prop) (M : List St) (L : List Nat) (d : Nat), L.length ≤ n → Ready w rb mb N E R M L d false → wt M + 16 * L.length ≤ 800000 → d ≤ 6 → L.length ≤ 1000 →
  Calls Try.prog 39 #[.pointer (some ⟨rb, 0, none⟩)] w fun e w' => Got w rb mb N E R M L d 0 1 (seqR d .eps L) e w'
/-- Whether seq goes on. -/
def goB (bad : Bool) (L : List Nat) : Bool := !bad && match L with
  | [] => false
  | c :: _ => !(([124, 41] : List UInt8).any fun b => b.toNat == c)
set_option maxRecDepth 100000 in
set_option maxHeartbeats 12800000 in
theorem seq_of (n : Nat) (hA : AtomC n) : SeqC n := by
  intro w rb mb N E R M L d hn h hwt hd hL
  have hM : M.length ≤ 900000 := Nat.le_trans (wt_len M) (by omega)
  obtain ⟨gc, hgc⟩ : ∃ g, g = w.heap.size := ⟨_, rfl⟩
  obtain ⟨w0, hw0⟩ : ∃ w0, w0 = w.alloc (.cells #[.int .i64 0, .int .i64 0] 50) := ⟨_, rfl⟩
  have k0 : Kp [] w w0 := by rw [hw0]; exact (Kp.refl _ _).alloc _
  have c0 : Cells w0 gc 50 [.int .i64 0, .int .i64 0] := by rw [hw0, hgc]; exact Cells.fresh w 50 _
  have h0 : Ready w0 rb mb N E (fun x => R x ∨ x = gc) M L d false := h.move k0 (fun x hx => by
    rcases hx with hx | hx
    · exact .inl hx
    · exact .inr ⟨by omega, by rw [hx]; exact c0.lt⟩) (.inl h.rR)
  have hgE : ¬ E gc := h.fresh (by omega)
  have hgr : gc ≠ rb := fun e => absurd (h.lt rb h.rR) (by omega)
  have hgN : ¬ N gc := fun e => absurd (h.nE gc e).2 (by omega)
  have q1 := add_any w0 w0 mb E _ M h0.mach (by omega) (Kp.refl _ _) h0.lt (.slice none 0 0) [] (Own.nil _ _) (by intro g hg; cases hg)
  obtain ⟨A4, c4, hc4, -, -, -, -⟩ := h0.rd.ex
  have z0 := hc4.cell 0
  simp only [List.getElem?_cons_zero] at z0
  have hgw : w.heap.size ≤ gc := by omega
  have HH := hid (And.intro h (And.intro hM (And.intro hgE (And.intro hgr (And.intro hgN hgw)))))
  have HB := hid (And.intro hwt (And.intro hL (And.intro hd hn)))
  have H0 := hid (And.intro h0 (And.intro c0 k0))
  have HW0 := hid hw0
  have HGC := hid hgc
  have HA := hid hA
  clear h h0 c0 hw0 hgc k0 hgE hgr hgN hc4 A4 c4 hM hwt hL hd hn hA hgw
  go_enter Try.func39, Try.ntmps39
  go_upto_region 1 with fail
  rw [← HW0.out]
  try rw [← HGC.out]
  clear HW0 HGC
  go_wp2_with fail
  (with_reducible refine q1.mono ?_)
  clear q1 z0
  rintro e w1 ⟨rfl, E1, m1, g1⟩
  have r1 := H0.out.1.grew m1 g1
  have p1 := g1.kq.cells H0.out.2.1 HH.out.2.2.1
  have K1 := (Rew.of_kept E rb H0.out.2.2).trans (Rew.of_grew rb g1)
  obtain ⟨gp, hgp⟩ : ∃ g, g = w1.heap.size := ⟨_, rfl⟩
  obtain ⟨w2, hw2⟩ : ∃ w2, w2 = w1.alloc (.cells #[.int .i64 (M.length : Int), .int .i64 (M.length : Int)] 50) := ⟨_, rfl⟩
  have k2 : Kp [] w1 w2 := by rw [hw2]; exact (Kp.refl _ _).alloc _
  have c2 : Cells w2 gp 50 [.int .i64 (M.length : Int), .int .i64 (M.length : Int)] := by rw [hw2, hgp]; exact Cells.fresh w1 50 _
  have hgc1 := p1.lt
  have r2 : Ready w2 rb mb N E1 (fun x => (R x ∨ x = gc) ∨ x = gp) (M ++ [⟨none, none, []⟩]) L d false := r1.move k2 (fun x hx => by
    rcases hx with hx | hx
    · exact .inl hx
    · exact .inr ⟨by omega, by rw [hx]; exact c2.lt⟩) (.inl (.inl HH.out.1.rR))
  have HP : Hid (gc ≠ gp ∧ gp ≠ rb ∧ gp ≠ rb ∧ ¬ N gp ∧ w.heap.size ≤ gp) := hid ⟨by omega, fun e => absurd (r1.lt rb (.inl HH.out.1.rR)) (by omega), fun e => absurd (r1.lt rb (.inl HH.out.1.rR)) (by omega), fun e => absurd (r1.nE gp e).2 (by omega), by have := K1.kq.size; omega⟩
  have HI := hid (And.intro r2 (And.intro (K1.trans (Rew.of_kept E1 rb k2)) (And.intro (p1.keep k2 (by simp)) c2)))
  have HW2 := hid hw2
  have HGP := hid hgp
  clear r1 p1 K1 hgp hw2 k2 c2 r2 m1 g1 hgc1
  go_wp2_with fail
  rw [← HW2.out]
  try rw [← HGP.out]
  clear HW2 HGP
  go_loopg [5, 6, 7] 2000 (fun g _ _ _ wr => ∃ M1 Lr d1 bad pl Er, Ready wr rb mb N Er (fun x => (R x ∨ x = gc) ∨ x = gp) M1 Lr d1 bad ∧ Rew w E rb wr Er ∧ Cells wr gc 50 [.int .i64 0, .int .i64 0] ∧ Cells wr gp 50 [.int .i64 (M.length : Int), .int .i64 ((pl : Nat) : Int)] ∧ SeqI M d L M1 Lr d1 bad pl ∧ (if bad then 0 else Lr.length + 1) ≤ g)
  case atStart =>
    obtain ⟨i1, i2, i3, i4⟩ := HI.out
    exact ⟨_, L, d, false, M.length, E1, i1, i2, i3, i4, seq_start M d L (Nat.le_succ_of_le HB.out.2.2.1), by have := HB.out.2.1; simp; omega⟩
  case round =>
    obtain ⟨M1, Lr, d1, bad, pl, Er, rr, Kr, cr, pr, si, hms⟩ := hrel
    have HR := hid (And.intro rr (And.intro Kr (And.intro cr (And.intro pr si))))
    have HMS := hid hms
    have qp := peek_any wr rb mb N Lr d1 bad rr.rd
    clear rr Kr cr pr si hms HI
    go_upto_region 3 with fail
    go_cut [24] (fun v24 wx => v24 = .bool (goB bad Lr) ∧ Kp [] wr wx)
    case first =>
      cases bad with
      | true =>
        have e0 : peekR true Lr = -1 := rfl
        rw [e0] at qp
        go_wp2_with fail
        (with_reducible refine qp.mono ?_)
        rintro e w' ⟨rfl, hw⟩
        rw [hw]
        clear qp hw e0
        go_wp2_with fail
        go_meet
        exact ⟨rfl, Kp.refl _ _⟩
      | false =>
        cases Lr with
        | nil =>
          have e0 : peekR false [] = -1 := rfl
          rw [e0] at qp
          go_wp2_with fail
          (with_reducible refine qp.mono ?_)
          rintro e w' ⟨rfl, hw⟩
          rw [hw]
          clear qp hw e0
          go_wp2_with fail
          go_meet
          exact ⟨rfl, Kp.refl _ _⟩
        | cons c r =>
          have e0 : peekR false (c :: r) = (c : Int) := rfl
          rw [e0] at qp
          have qc := contains_any ⟨#[124, 41]⟩ c wr (ascii_of _ (by decide)) (by decide)
          obtain ⟨hit, hhit⟩ : ∃ b, b = ((⟨#[124, 41]⟩ : ByteArray).data.toList.any fun b => b.toNat == c) := ⟨_, rfl⟩
          rw [← hhit] at qc
          have hgo : goB false (c :: r) = !hit := by rw [hhit]; rfl
          have g0 : (0 : Int) ≤ (c : Int) := by omega
          have g1 : decide ((0 : Int) ≤ (c : Int)) = true := decide_eq_true g0
          have HG := hid hgo
          clear hhit e0 hgo
          go_wp2_with fail
          (with_reducible refine qp.mono ?_)
          rintro e w' ⟨rfl, hw⟩
          rw [hw]
          clear hw
          go_wp2_with fail
          (with_reducible refine qp.mono ?_)
          rintro e w' ⟨rfl, hw⟩
          rw [hw]
          clear hw qp
          go_wp2_with fail
          (with_reducible refine qc.mono ?_)
          rintro e w' ⟨rfl, hk⟩
          have HK := hid hk
          clear qc hk
          go_wp2_with fail
          go_meet
          exact ⟨by rw [HG.out], HK.out⟩
    case rest =>
      clear qp
      obtain ⟨rfl, kc⟩ := hcut
      obtain ⟨go, hgo⟩ : ∃ b, b = goB bad Lr := ⟨_, rfl⟩
      rw [← hgo]
      have HC := hid (And.intro (HR.out.1.kept kc) (And.intro (HR.out.2.1.trans (Rew.of_kept Er rb kc)) (And.intro (HR.out.2.2.1.keep kc (by simp)) (And.intro (HR.out.2.2.2.1.keep kc (by simp)) HR.out.2.2.2.2))))
      have HGO := hid hgo
      clear HR hgo kc
      cases go with
      | false =>
        have s0 := HC.out.2.2.2.1.cell 0
        have s1 := HC.out.2.2.2.1.cell 1
        simp only [List.getElem?_cons_zero, List.getElem?_cons_succ] at s0 s1
        obtain ⟨w6, hw6, r6, K6, c6⟩ := Ready.result (R := R) (HC.out.1.less (R' := fun x => R x ∨ x = gc) (fun x hx => .inl hx) (.inl HH.out.1.rR)) HH.out.1.rR HH.out.2.2.2.1 HH.out.2.2.2.2.1 HH.out.2.2.2.2.2 HC.out.2.1 HC.out.2.2.1 (.int .i64 (M.length : Int)) (.int .i64 (pl : Int))
        have HE := hid (And.intro r6 (And.intro K6 c6))
        have HY := hid hw6
        have y0 := HC.out.2.2.1.cell 0
        have y1 := HC.out.2.2.1.cell 1
        have f0 := HC.out.2.2.1.free 0
        have f1 := HC.out.2.2.1.free 1
        simp only [List.getElem?_cons_zero, List.getElem?_cons_succ] at y0 y1
        clear r6 K6 c6 hw6
        go_wp2_with fail
        rw [← HY.out]
        refine bodyPost_ret (results_cell_row rfl _ _ gc 50 _ _ _ rfl HE.out.2.2 Try.underlying50 rfl (by kernel_rfl)) rfl ?_
        obtain ⟨i1, i2, i3, i4, i5, i6, i7, i8, i9⟩ := HC.out.2.2.2.2
        have hgo := HGO.out
        refine ⟨M.length, pl, Er, M1, Lr, d1, bad, rfl, HE.out.1, HE.out.2.1, i1, Nat.le_of_lt i2, i2, i3, by omega, i5, i6, i7, ?_⟩
        cases bad with
        | true =>
          rw [i8 rfl]
          exact ⟨rfl, fun re r e => by cases e⟩
        | false =>
          obtain ⟨e1, acc, e2, hf⟩ := i9 rfl
          have hst : seqR d acc Lr = some (acc, Lr) := seq_stop (by
            cases Lr with
            | nil => exact .inl rfl
            | cons c r =>
              refine .inr ⟨c, r, rfl, ?_⟩
              have : false = (!false && !(([124, 41] : List UInt8).any fun b => b.toNat == c)) := hgo
              simp at this
              omega)
          rw [e2, hst]
          refine ⟨rfl, fun re r e => ?_⟩
          injection e with e
          injection e with e3 e4
          subst e3 e4
          exact ⟨e1, rfl, hf⟩
      | true =>
        obtain ⟨hbad, c, r, hLr, hcs⟩ : bad = false ∧ ∃ c r, Lr = c :: r ∧ ¬ (c = 124 ∨ c = 41) := by
          have hgo := HGO.out
          cases bad
          · cases Lr with
            | nil => cases hgo
            | cons c r =>
              refine ⟨rfl, c, r, rfl, ?_⟩
              have : true = (!false && !(([124, 41] : List UInt8).any fun b => b.toNat == c)) := hgo
              simp at this
              omega
          · cases hgo
        subst hbad hLr
        obtain ⟨rfl, -⟩ := HC.out.2.2.2.2.yes rfl
        have hsz := HC.out.2.2.2.2.size
        have hlf := HC.out.2.2.2.2.left
        have hb := HB.out
        simp only [List.length_cons] at hsz hlf
        have qa := HA.out wc rb mb N Er _ M1 c r d1 (by omega) HC.out.1 (by have := HC.out.2.2.2.2.len; omega) (by omega) hb.2.2.1 (by omega)
        have HCS := hid hcs
        clear hcs hsz hlf hb HGO
        go_upto_region 4 with fail
        go_wp2_with fail
        (with_reducible refine qa.mono ?_)
        clear qa
        rintro e w5 hg
        obtain ⟨f, l, E5, M5, L5, d5, bad5, rfl, r5, K5, g1, g2, g3, g4, g5, g6, g7, g8, g9, g10⟩ := hg.ex
        clear hg
        have cc5 := K5.cells HC.out.2.2.1 (fun h => HC.out.1.mach.apart _ h (.inl (.inr rfl))) HH.out.2.2.2.1
        have cp5 := K5.cells HC.out.2.2.2.1 (fun h => HC.out.1.mach.apart _ h (.inr rfl)) HP.out.2.1
        have KK5 := HC.out.2.1.trans K5
        obtain ⟨gq, hgq⟩ : ∃ g, g = w5.heap.size := ⟨_, rfl⟩
        obtain ⟨w6, hw6⟩ : ∃ w6, w6 = w5.alloc (.cells #[.int .i64 (f : Int), .int .i64 (l : Int)] 50) := ⟨_, rfl⟩
        have k6 : Kp [] w5 w6 := by rw [hw6]; exact (Kp.refl _ _).alloc _
        have c6 : Cells w6 gq 50 [.int .i64 (f : Int), .int .i64 (l : Int)] := by rw [hw6, hgq]; exact Cells.fresh w5 50 _
        have r6 : Ready w6 rb mb N E5 (fun x => ((R x ∨ x = gc) ∨ x = gp) ∨ x = gq) M5 L5 d5 bad5 := r5.move k6 (fun x hx => by
          rcases hx with hx | hx
          · exact .inl hx
          · exact .inr ⟨by omega, by rw [hx]; exact c6.lt⟩) (.inl (.inl (.inl HH.out.1.rR)))
        have hgp5 := cp5.lt
        have hgc5 := cc5.lt
        have HQ : Hid (gq ≠ rb ∧ ¬ N gq ∧ w.heap.size ≤ gq ∧ gq ≠ gp ∧ gq ≠ gc) := hid ⟨fun e => absurd (r5.lt rb (.inl (.inl HH.out.1.rR))) (by omega), fun e => absurd (r5.nE gq e).2 (by omega), by have := KK5.kq.size; omega, by omega, by omega⟩
        have q7 := next_any w6 rb mb N L5 d5 bad5 r6.rd ⟨#[42, 43, 63]⟩ (ascii_of _ (by decide)) (by decide)
        obtain ⟨ok, hok⟩ : ∃ b, b = hits (⟨#[42, 43, 63]⟩ : ByteArray).data.toList bad5 L5 := ⟨_, rfl⟩
        rw [← hok] at q7
        obtain ⟨sg, hsg⟩ : ∃ p, p = peekR bad5 L5 := ⟨_, rfl⟩
        rw [← hsg] at q7
        have HG := hid (And.intro g1 (And.intro g2 (And.intro g3 (And.intro g4 (And.intro g5 (And.intro g6 (And.intro g7 (And.intro g8 (And.intro g9 (And.intro g10 (And.intro hok hsg)))))))))))
        have H6 := hid (And.intro r6 (And.intro c6 (And.intro (cp5.keep k6 (by simp)) (And.intro (cc5.keep k6 (by simp)) (KK5.trans (Rew.of_kept E5 rb k6))))))
        have HW6 := hid hw6
        have HGQ := hid hgq
        clear r5 K5 g1 g2 g3 g4 g5 g6 g7 g8 g9 g10 cc5 cp5 KK5 hgq hw6 k6 c6 r6 hgp5 hgc5 hok hsg
        unfold partV
        go_upto_region 5 with fail
        rw [← HW6.out]
        try rw [← HGQ.out]
        clear HW6 HGQ
        go_wp2_with fail
        (with_reducible refine q7.mono ?_)
        clear q7
        rintro e w7 ⟨rfl, rd7, k7⟩
        have hgqr : gq ∉ [rb] := by simpa using HQ.out.1
        have hgpr : gp ∉ [rb] := by simpa using HP.out.2.1
        have hgcr : gc ∉ [rb] := by simpa using HH.out.2.2.2.1
        have HX := hid (And.intro (H6.out.1.read k7 rd7) (And.intro (H6.out.2.1.keep k7 hgqr) (And.intro (H6.out.2.2.1.keep k7 hgpr) (And.intro (H6.out.2.2.2.1.keep k7 hgcr) (H6.out.2.2.2.2.trans (Rew.of_kp E5 rb k7))))))
        clear rd7 k7 hgqr hgpr hgcr H6
        go_upto_if 32 with fail
        go_cut [] (fun wx => ∃ (M3 : List St) (f3 l3 : Nat) (L6 : List Nat) (E8 : Nat → Prop), Ready wx rb mb N E8 (fun x => (R x ∨ x = gc) ∨ x = gp) M3 L6 d5 bad5 ∧ Cells wx gq 50 [.int .i64 (f3 : Int), .int .i64 (l3 : Int)] ∧ Cells wx gp 50 [.int .i64 (M.length : Int), .int .i64 (pl : Int)] ∧ Cells wx gc 50 [.int .i64 0, .int .i64 0] ∧ Rew w E rb wx E8 ∧ ¬ E8 gq ∧
          (SeqI M d1 L (goTo M3 pl f3) L6 d5 bad5 l3 ∧ (bad5 = false → L6.length < (c :: r).length)) ∧ pl < M3.length ∧ wt M3 ≤ 1000000)
        case first =>
          obtain ⟨g1, g2, g3, g4, g5, g6, g7, g8, g9, g10, hok, hsg⟩ := HG.out
          have hpl := HC.out.2.2.2.2.last
          have hszz := HC.out.2.2.2.2.size
          have hb1 := HB.out.1
          cases ok with
          | false =>
            go_wp2_with fail
            go_meet
            obtain ⟨x1, x2, x3, x4, x5⟩ := HX.out
            simp only [Bool.false_eq_true, if_false] at x1
            exact ⟨M5, f, l, L5, E5, x1.less (fun x hx => .inl hx) (.inl (.inl HH.out.1.rR)), x2, x3, x4, x5, fun h => x1.mach.apart _ h (.inr rfl), seq_step0 HC.out.2.2.2.2 HCS.out g1 g2 g4 g5 g6 g7 g8 g9 g10 hok.symm, by omega, by omega⟩
          | true =>
            obtain ⟨s, L6, rfl, hs3⟩ : ∃ s L6, L5 = s :: L6 ∧ (s = 63 ∨ s = 43 ∨ s = 42) := by
              cases L5 with
              | nil => cases hok
              | cons s L6 =>
                have hok : true = (!bad5 && ([42, 43, 63] : List UInt8).any fun b => b.toNat == s) := hok
                simp at hok
                exact ⟨s, L6, rfl, by omega⟩
            have hb5 : bad5 = false := by
              have hok : true = (!bad5 && ([42, 43, 63] : List UInt8).any fun b => b.toNat == s) := hok
              cases bad5
              · rfl
              · cases hok
            have hsg2 : sg = (s : Int) := by rw [hsg, hb5]; rfl
            clear hsg
            subst hsg2
            obtain ⟨x1, x2, x3, x4, x5⟩ := HX.out
            simp only [if_true, List.tail_cons] at x1
            obtain ⟨A7, c7, hc7, -, -, -, -⟩ := x1.rd.ex
            obtain ⟨n7, hn7⟩ : ∃ n, n = L6.length := ⟨_, rfl⟩
            rw [← hn7] at hc7
            have H7 := hid (And.intro x1 (And.intro x2 (And.intro x3 (And.intro x5 (And.intro hc7 (fun h => x1.mach.apart gq h (.inr rfl)))))))
            have HX4 := hid x4
            have HB5 : Hid (wt M5 ≤ 900000 ∧ l < M5.length ∧ pl < M5.length) := hid ⟨by omega, g4, by omega⟩
            have HS3 := hid hs3
            have HST := hid (seq_step1 HC.out.2.2.2.2 HCS.out g1 g2 g5 g6 g7 g8 g9 g10 hok.symm)
            have HN7 := hid hn7
            clear g1 g2 g3 g4 g5 g6 g7 g8 g9 g10 hok hpl hszz hb1 hs3 hb5 x1 x2 x3 x4 x5 hc7 hn7 HX
            go_upto_region 7 with fail
            refine lin_start (fun W' => Cells W' rb 69 [.pointer (some ⟨mb, 0, none⟩), .slice A7 n7 c7, .int .i64 (d5 : Int), .bool bad5] ∧ Cells W' gq 50 [.int .i64 (f : Int), .int .i64 (l : Int)]) ((Stays.cells _ _ _).and (Stays.cells _ _ _)) (by kernel_rfl) ⟨Cells.drew H7.out.2.2.2.2.1, Cells.drew H7.out.2.1⟩ (fun hSS hS => ?_)
            refine lin_val (i := 0) (v := ?_) rfl (by kernel_rfl) (by kernel_rfl) (by kernel_rfl) (by kernel_rfl) (fun _ _ _ h => h) hSS hS rfl (fun W' hSw => ?_) ?_
            rotate_left
            · go_simp; first | done | with_reducible rfl
            try simp only [Act.put, List.setIfInBounds_toArray, List.set_cons_zero, List.set_cons_succ]
            refine lin_val (i := 1) (v := ?_) rfl (by kernel_rfl) (by kernel_rfl) (by kernel_rfl) (by kernel_rfl) (fun _ _ _ h => h) hSS hS rfl (fun W' hSw => ?_) ?_
            rotate_left
            · go_simp; first | done | with_reducible rfl
            try simp only [Act.put, List.setIfInBounds_toArray, List.set_cons_zero, List.set_cons_succ]
            refine lin_val (i := 2) (v := ?_) rfl (by kernel_rfl) (by kernel_rfl) (by kernel_rfl) (by kernel_rfl) (fun _ _ _ h => h) hSS hS rfl (fun W' hSw => ?_) ?_
            rotate_left
            · go_simp; first | done | with_reducible rfl
            try simp only [Act.put, List.setIfInBounds_toArray, List.set_cons_zero, List.set_cons_succ]
            refine lin_val (i := 3) (v := ?_) rfl (by kernel_rfl) (by kernel_rfl) (by kernel_rfl) (by kernel_rfl) (fun _ _ _ h => h) hSS hS rfl (fun W' hSw => ?_) ?_
            rotate_left
            · have x0 := hSw.1.cell 0; simp only [List.getElem?_cons_zero, List.getElem?_cons_succ] at x0; go_simp; first | done | with_reducible rfl
            try simp only [Act.put, List.setIfInBounds_toArray, List.set_cons_zero, List.set_cons_succ]
            refine lin_val (i := 4) (v := ?_) rfl (by kernel_rfl) (by kernel_rfl) (by kernel_rfl) (by kernel_rfl) (fun _ _ _ h => h) hSS hS rfl (fun W' hSw => ?_) ?_
            rotate_left
            · have q0 := hSw.2.cell 0; have q1 := hSw.2.cell 1; simp only [List.getElem?_cons_zero, List.getElem?_cons_succ] at q0 q1; go_simp; first | done | with_reducible rfl
            try simp only [Act.put, List.setIfInBounds_toArray, List.set_cons_zero, List.set_cons_succ]
            refine lin_val (i := 5) (v := ?_) rfl (by kernel_rfl) (by kernel_rfl) (by kernel_rfl) (by kernel_rfl) (fun _ _ _ h => h) hSS hS rfl (fun W' hSw => ?_) ?_
            rotate_left
            · go_simp; first | done | with_reducible rfl
            try simp only [Act.put, List.setIfInBounds_toArray, List.set_cons_zero, List.set_cons_succ]
            refine lin_list (i := 6) (by kernel_rfl) rfl (fun w8 k8 Q2 hQ => ?_)
            have k78 : Kp [] w7 w8 := (Kp.refl _ _).drew.nil k8
            have r8 := (H7.out.1.move (R' := (fun x => ((R x ∨ x = gc) ∨ x = gp) ∨ x = gq)) k78 (fun x hx => by
              rcases hx with hx | hx
              · exact .inl (.inl hx)
              · exact .inl (.inr hx)) (.inl (.inl (.inl HH.out.1.rR))))
            have qm := many_any w8 mb E5 _ M5 r8.mach (Nat.le_trans HB5.out.1 (by decide)) r8.lt f l HB5.out.2.1 s HS3.out
            have H8 := hid (And.intro r8 k78)
            clear k8 k78 r8
            go_wp2_with fail
            (with_reducible refine qm.mono ?_)
            clear qm
            rintro e w9 ⟨rfl, E9, m9, g9⟩
            have r9 := H8.out.1.grew m9 g9
            have cr9 := g9.kq.cells (H7.out.2.2.2.2.1.keep H8.out.2 (by simp)) H7.out.1.rE
            have cq9 := g9.kq.cells (H7.out.2.1.keep H8.out.2 (by simp)) H7.out.2.2.2.2.2
            have H9 := hid (And.intro r9 (And.intro cr9 (And.intro cq9 g9)))
            clear r9 m9 g9
            go_wp2_with fail
            refine hQ.out _ _ ⟨cr9, cq9⟩ (fun hS9 => ?_)
            clear hQ hS cr9 cq9
            try simp only [Act.put, List.setIfInBounds_toArray, List.set_cons_zero, List.set_cons_succ]
            refine lin_last (i := 7) (by kernel_rfl) rfl (by kernel_rfl) (fun w10 k10 K hK => ?_)
            have cq10 := H9.out.2.2.1.keep k10 (by simp)
            have y0 := cq10.cell 0
            have y1 := cq10.cell 1
            have u0 := cq10.free 0
            have u1 := cq10.free 1
            simp only [List.getElem?_cons_zero, List.getElem?_cons_succ] at y0 y1
            have H10 := hid k10
            clear k10 cq10
            go_simp
            refine hK.out _ _ ?_
            clear hK K hS9 hSS y0 y1 u0 u1
            obtain ⟨w11, hw11⟩ : ∃ w11, w11 = (w10.setCell ⟨gq, 0, none⟩ (.int .i64 ((M5.length : Int) + 1))).setCell ⟨gq, 1, none⟩ (.int .i64 (M5.length : Int)) := ⟨_, rfl⟩
            have HW11 := hid hw11
            clear hw11
            go_wp2_with fail
            go_meet
            obtain ⟨r9, cr9, cq9, g9⟩ := H9.out
            have k10 := H10.out
            have hEq : ¬ E9 gq := fun h => r9.mach.apart _ h (.inr rfl)
            have hx3 := (g9.kq.cells (H7.out.2.2.1.keep H8.out.2 (by simp)) (fun h => H8.out.1.mach.apart _ h (.inl (.inr rfl)))).keep k10 (by simp)
            have hx4 := (g9.kq.cells (HX4.out.keep H8.out.2 (by simp)) (fun h => H8.out.1.mach.apart _ h (.inl (.inl (.inr rfl))))).keep k10 (by simp)
            have k11 : Kp [gq] w10 w11 := by rw [HW11.out]; exact ((Kp.refl _ _).setCell (fun _ => by simp) _).setCell (fun _ => by simp) _
            have r11 := ((r9.kept k10).wrote k11 (.inr rfl) HQ.out.1 HQ.out.2.1).less (R' := (fun x => (R x ∨ x = gc) ∨ x = gp)) (fun x hx => .inl hx) (.inl (.inl HH.out.1.rR))
            have K11 := (((H7.out.2.2.2.1.trans (Rew.of_kept E5 rb H8.out.2)).trans (Rew.of_grew rb g9)).trans (Rew.of_kept E9 rb k10)).fresh k11 HQ.out.2.2.1
            rw [← HW11.out]
            exact ⟨manyM M5 f l s, M5.length + 1, M5.length, L6, E9, r11, by rw [HW11.out]; exact ((cq9.keep k10 (by simp)).put 0 _).put 1 _, hx3.keep k11 (by simpa using Ne.symm HQ.out.2.2.2.1), hx4.keep k11 (by simpa using Ne.symm HQ.out.2.2.2.2), K11, hEq, HST.out, by rw [manyM_len]; have := HB5.out.2.2; omega, Nat.le_trans (manyM_wt _ _ _ _) (by have := HB5.out.1; omega)⟩
        case rest =>
          obtain ⟨M3, f3, l3, L6, E8, r8, c8q, c8p, c8c, K8, h8q, hsi, hpl, hwt3⟩ := hcut
          obtain ⟨A8, c8, hc8, -, -, -, -⟩ := r8.rd.ex
          have x0 := hc8.cell 0
          have p1 := c8p.cell 1
          have q0 := c8q.cell 0
          simp only [List.getElem?_cons_zero, List.getElem?_cons_succ] at x0 p1 q0
          have H8 := hid (And.intro r8 (And.intro c8q (And.intro c8p (And.intro c8c (And.intro K8 (And.intro h8q (And.intro hsi (And.intro hpl hwt3))))))))
          clear r8 c8q c8p c8c K8 h8q hsi hpl hwt3 hc8 A8 c8 HX HG HC
          go_upto_region 8 with fail
          refine lin_start (fun W' => Kp [] wc W') (Stays.kp _ _) (by kernel_rfl) (Kp.refl _ _).drew (fun hSS hS => ?_)
          refine lin_val (i := 0) (v := ?_) rfl (by kernel_rfl) (by kernel_rfl) (by kernel_rfl) (by kernel_rfl) (fun _ _ _ h => h) hSS hS rfl (fun W' hSw => ?_) ?_
          rotate_left
          · go_simp; first | done | with_reducible rfl
          try simp only [Act.put, List.setIfInBounds_toArray, List.set_cons_zero, List.set_cons_succ]
          refine lin_val (i := 1) (v := ?_) rfl (by kernel_rfl) (by kernel_rfl) (by kernel_rfl) (by kernel_rfl) (fun _ _ _ h => h) hSS hS rfl (fun W' hSw => ?_) ?_
          rotate_left
          · go_simp; first | done | with_reducible rfl
          try simp only [Act.put, List.setIfInBounds_toArray, List.set_cons_zero, List.set_cons_succ]
          refine lin_val (i := 2) (v := ?_) rfl (by kernel_rfl) (by kernel_rfl) (by kernel_rfl) (by kernel_rfl) (fun _ _ _ h => h) hSS hS rfl (fun W' hSw => ?_) ?_
          rotate_left
          · go_simp; first | done | with_reducible rfl
          try simp only [Act.put, List.setIfInBounds_toArray, List.set_cons_zero, List.set_cons_succ]
          refine lin_val (i := 3) (v := ?_) rfl (by kernel_rfl) (by kernel_rfl) (by kernel_rfl) (by kernel_rfl) (fun _ _ _ h => h) hSS hS rfl (fun W' hSw => ?_) ?_
          rotate_left
          · have x0 := hSw.cell x0 (by simp); go_simp; first | done | with_reducible rfl
          try simp only [Act.put, List.setIfInBounds_toArray, List.set_cons_zero, List.set_cons_succ]
          refine lin_val (i := 4) (v := ?_) rfl (by kernel_rfl) (by kernel_rfl) (by kernel_rfl) (by kernel_rfl) (fun _ _ _ h => h) hSS hS rfl (fun W' hSw => ?_) ?_
          rotate_left
          · go_simp; first | done | with_reducible rfl
          try simp only [Act.put, List.setIfInBounds_toArray, List.set_cons_zero, List.set_cons_succ]
          refine lin_val (i := 5) (v := ?_) rfl (by kernel_rfl) (by kernel_rfl) (by kernel_rfl) (by kernel_rfl) (fun _ _ _ h => h) hSS hS rfl (fun W' hSw => ?_) ?_
          rotate_left
          · have p1 := hSw.cell p1 (by simp); go_simp; first | done | with_reducible rfl
          try simp only [Act.put, List.setIfInBounds_toArray, List.set_cons_zero, List.set_cons_succ]
          refine lin_val (i := 6) (v := ?_) rfl (by kernel_rfl) (by kernel_rfl) (by kernel_rfl) (by kernel_rfl) (fun _ _ _ h => h) hSS hS rfl (fun W' hSw => ?_) ?_
          rotate_left
          · go_simp; first | done | with_reducible rfl
          try simp only [Act.put, List.setIfInBounds_toArray, List.set_cons_zero, List.set_cons_succ]
          refine lin_val (i := 7) (v := ?_) rfl (by kernel_rfl) (by kernel_rfl) (by kernel_rfl) (by kernel_rfl) (fun _ _ _ h => h) hSS hS rfl (fun W' hSw => ?_) ?_
          rotate_left
          · have q0 := hSw.cell q0 (by simp); go_simp; first | done | with_reducible rfl
          try simp only [Act.put, List.setIfInBounds_toArray, List.set_cons_zero, List.set_cons_succ]
          refine lin_listLast (i := 8) (by kernel_rfl) rfl (by kernel_rfl) (fun w9 k9 Q2 hQ => ?_)
          have k9' : Kp [] wc w9 := (Kp.refl _ _).drew.nil k9
          have r9 := H8.out.1.kept k9'
          have qt := toM_any w9 mb E8 _ M3 r9.mach H8.out.2.2.2.2.2.2.2.2 r9.lt pl f3 H8.out.2.2.2.2.2.2.2.1
          have H9 := hid (And.intro r9 k9')
          clear k9 k9' r9 hS hSS
          go_wp2_with fail
          (with_reducible refine qt.mono ?_)
          clear qt
          rintro e w10 ⟨rfl, E10, m10, g10⟩
          have r10 := H9.out.1.grew m10 g10
          have cq10 := g10.kq.cells (H8.out.2.1.keep H9.out.2 (by simp)) H8.out.2.2.2.2.2.1
          have cp10 := g10.kq.cells (H8.out.2.2.1.keep H9.out.2 (by simp)) (fun h => H8.out.1.mach.apart _ h (.inr rfl))
          have cc10 := g10.kq.cells (H8.out.2.2.2.1.keep H9.out.2 (by simp)) (fun h => H8.out.1.mach.apart _ h (.inl (.inr rfl)))
          have K10 := (H8.out.2.2.2.2.1.trans (Rew.of_kept E8 rb H9.out.2)).trans (Rew.of_grew rb g10)
          obtain ⟨w11, hw11⟩ : ∃ w11, w11 = w10.setCell ⟨gp, 1, none⟩ (.int .i64 (l3 : Int)) := ⟨_, rfl⟩
          have k11 : Kp [gp] w10 w11 := by rw [hw11]; exact (Kp.refl _ _).setCell (fun _ => by simp) _
          have r11 := r10.wrote k11 (.inr rfl) HP.out.2.2.1 HP.out.2.2.2.1
          have cp11 : Cells w11 gp 50 [.int .i64 (M.length : Int), .int .i64 (l3 : Int)] := by rw [hw11]; exact cp10.put 1 _
          have cc11 := cc10.keep k11 (by simpa using HP.out.1)
          have K11 := K10.fresh k11 HP.out.2.2.2.2
          have H11 := hid (And.intro r11 (And.intro K11 (And.intro cc11 cp11)))
          have HW11 := hid hw11
          have q1 := cq10.cell 1
          have p1 := cp10.cell 1
          have u1 := cp10.free 1
          simp only [List.getElem?_cons_zero, List.getElem?_cons_succ] at q1 p1
          clear r10 cq10 cp10 cc10 K10 k11 r11 cp11 cc11 K11 hw11 m10 g10
          go_wp2_with fail
          refine hQ.out _ _ ?_
          clear hQ
          go_wp2_with fail
          rw [← HW11.out]
          clear HW11
          go_roundg (gk - 1)
          case measure => have := HMS.out; simp only [Bool.false_eq_true, if_false] at this; omega
          case rel =>
            obtain ⟨s1, s2⟩ := H8.out.2.2.2.2.2.2.1
            refine ⟨_, L6, d5, bad5, l3, E10, H11.out.1, H11.out.2.1, H11.out.2.2.1, H11.out.2.2.2, s1, ?_⟩
            have := HMS.out
            simp only [Bool.false_eq_true, if_false] at this
            cases hb : bad5
            · have := s2 hb
              simp only [Bool.false_eq_true, if_false]
              omega
            · simp only [if_true]
              omega
end Go.Proofs.Ytaaikjedagnjbaa
