/- The reader's seq: what a round does to what was read. Plain. -/
import Derived.Test.YtaaikjedagnjbaaGAtom
import Derived.Test.YtaaikjedagnjbaaGLin
namespace Go.Proofs.Ytaaikjedagnjbaa
open Go Go.RowKit Go.Lib

/-- Some atoms were read: the machine M grew to M' by a part from M.length to pl. -/
structure SeqI (M : List St) (d : Nat) (L : List Nat) (M' : List St) (Lr : List Nat) (d' : Nat) (bad : Bool) (pl : Nat) : Prop where
  old : bad = false → ∀ q, q < M.length → M'[q]? = M[q]?
  len : M.length < M'.length
  last : pl < M'.length
  size : wt M' + 16 * Lr.length ≤ wt M + 16 * L.length + 1
  left : Lr.length ≤ L.length
  d1 : d ≤ d'
  d2 : d' ≤ 7
  no : bad = true → seqR d .eps L = none
  yes : bad = false → d' = d ∧ ∃ acc, seqR d .eps L = seqR d acc Lr ∧ Frag M' M.length M'.length M.length pl acc
theorem seq_start (M : List St) (d : Nat) (L : List Nat) (hd : d ≤ 7) : SeqI M d L (M ++ [⟨none, none, []⟩]) L d false M.length := by
  have hl : (M ++ [(⟨none, none, []⟩ : St)]).length = M.length + 1 := by simp
  refine ⟨fun _ q hq => List.getElem?_append_left hq, by omega, by omega, ?_, Nat.le_refl _, Nat.le_refl _, hd, (fun e => by cases e), fun _ => ⟨rfl, .eps, rfl, ?_⟩⟩
  · rw [wt_append]
    show wt M + 1 + _ ≤ _
    omega
  · rw [hl]
    exact frag_eps (by rw [List.getElem?_append_right (Nat.le_refl _), Nat.sub_self]; rfl)
/-- A part was read behind, and the old last state goes on to it. -/
theorem seq_join {M M1 M3 : List St} {d : Nat} {L Lr L6 : List Nat} {d5 pl f l : Nat} {bad : Bool} (h : SeqI M d L M1 Lr d false pl) (h1 : bad = false → ∀ q, q < M1.length → M3[q]? = M1[q]?) (h2 : M1.length ≤ M3.length) (hl : l < M3.length)
    (hw : wt M3 + 16 * L6.length + 1 ≤ wt M1 + 16 * Lr.length) (hL : L6.length ≤ Lr.length) (h3 : d ≤ d5) (h4 : d5 ≤ 7) (hb : bad = true → ∀ acc, seqR d acc Lr = none)
    (hy : bad = false → d5 = d ∧ ∃ re, (∀ acc, seqR d acc Lr = seqR d (.seq acc re) L6) ∧ Frag M3 M1.length M3.length f l re) : SeqI M d L (goTo M3 pl f) L6 d5 bad l := by
  obtain ⟨-, acc, e, hf⟩ := h.yes rfl
  have hpl := hf.hl
  have hw2 := goTo_wt M3 pl f
  have hsz := h.size
  have hlen := h.len
  have hleft := h.left
  refine ⟨fun hb' q hq => ?_, by rw [goTo_len]; omega, by rw [goTo_len]; exact hl, by omega, by omega, h3, h4, fun hb' => ?_, fun hb' => ?_⟩
  · rw [goTo_ne (by omega), h1 hb' q (by omega), h.old rfl q hq]
  · rw [e]; exact hb hb' acc
  · obtain ⟨e5, re, hre, hf3⟩ := hy hb'
    refine ⟨e5, .seq acc re, by rw [e, hre acc], ?_⟩
    rw [goTo_len]
    have hfl : Frag M3 M.length M1.length M.length pl acc := hf.later (fun q _ hq => h1 hb' q hq) h2
    refine frag_seq hfl hf3 (fun q _ _ hne => goTo_ne hne) ?_ (by rw [goTo_len]; exact Nat.le_refl _)
    obtain ⟨st, hs1, ⟨hs2, hs3⟩, hs4⟩ := hfl.last
    have hst : M3[pl]? = some ⟨none, none, []⟩ := by rw [hs1]; cases st; simp_all
    exact goTo_at hst
theorem seq_stop {d : Nat} {acc : Re} {L : List Nat} (h : L = [] ∨ ∃ c r, L = c :: r ∧ (c = 124 ∨ c = 41)) : seqR d acc L = some (acc, L) := by
  rcases h with rfl | ⟨c, r, rfl, hc⟩
  · exact seq_nil d acc
  · rw [seq_cons, if_pos hc]
theorem seq_bad {d c : Nat} {r : List Nat} (hc : ¬ (c = 124 ∨ c = 41)) (h : atomR d (c :: r) = none) (acc : Re) : seqR d acc (c :: r) = none := by
  rw [seq_cons, if_neg hc, h]; rfl
theorem seq_go {d c : Nat} {r L5 : List Nat} {re : Re} (hc : ¬ (c = 124 ∨ c = 41)) (h : atomR d (c :: r) = some (re, L5)) (acc : Re) : seqR d acc (c :: r) = seqR d (.seq acc (signR re L5).1) (signR re L5).2 := by
  rw [seq_cons, if_neg hc, h]; rfl
/-- No sign behind. -/
theorem seq_step0 {M M1 M2 : List St} {d : Nat} {L r L5 : List Nat} {c d5 pl f l : Nat} {bad : Bool} (h : SeqI M d L M1 (c :: r) d false pl) (hc : ¬ (c = 124 ∨ c = 41)) (g1 : bad = false → ∀ q, q < M1.length → M2[q]? = M1[q]?) (g2 : M1.length ≤ M2.length) (g4 : l < M2.length)
    (g5 : wt M2 + 16 * L5.length + 13 ≤ wt M1 + 16 * (c :: r).length + 0) (g6 : L5.length ≤ (c :: r).length) (g7 : d ≤ d5) (g8 : d5 ≤ 7) (g9 : bad = (atomR d (c :: r)).isNone)
    (g10 : ∀ re r', atomR d (c :: r) = some (re, r') → d5 = d ∧ L5 = r' ∧ Frag M2 M1.length M2.length f l re) (hs : hits [42, 43, 63] bad L5 = false) : SeqI M d L (goTo M2 pl f) L5 d5 bad l ∧ (bad = false → L5.length < (c :: r).length) := by
  refine ⟨seq_join h g1 g2 g4 (by omega) g6 g7 g8 (fun hb => ?_) (fun hb => ?_), fun hb => ?_⟩
  · cases ha : atomR d (c :: r) with
    | none => exact seq_bad hc ha
    | some p => rw [ha] at g9; rw [g9] at hb; cases hb
  · cases ha : atomR d (c :: r) with
    | none => rw [ha] at g9; rw [g9] at hb; cases hb
    | some p =>
      obtain ⟨re, r'⟩ := p
      obtain ⟨e1, e2, e3⟩ := g10 re r' ha
      subst e2
      have hsg : signR re L5 = (re, L5) := by
        cases L5 with
        | nil => rfl
        | cons a q =>
          rw [hb] at hs
          have hs : (!false && ([42, 43, 63] : List UInt8).any fun b => b.toNat == a) = false := hs
          simp at hs
          rw [sign_cons, if_neg (by omega), if_neg (by omega), if_neg (by omega)]
      refine ⟨e1, re, fun acc => ?_, e3⟩
      rw [seq_go hc ha acc, hsg]
  · cases ha : atomR d (c :: r) with
    | none => rw [ha] at g9; rw [g9] at hb; cases hb
    | some p =>
      obtain ⟨re, r'⟩ := p
      obtain ⟨e1, e2, e3⟩ := g10 re r' ha
      rw [e2]
      exact atomR_len ha
/-- A sign behind. -/
theorem seq_step1 {M M1 M2 : List St} {d : Nat} {L r L5 : List Nat} {c s d5 pl f l : Nat} {bad : Bool} (h : SeqI M d L M1 (c :: r) d false pl) (hc : ¬ (c = 124 ∨ c = 41)) (g1 : bad = false → ∀ q, q < M1.length → M2[q]? = M1[q]?) (g2 : M1.length ≤ M2.length)
    (g5 : wt M2 + 16 * (s :: L5).length + 13 ≤ wt M1 + 16 * (c :: r).length + 0) (g6 : (s :: L5).length ≤ (c :: r).length) (g7 : d ≤ d5) (g8 : d5 ≤ 7) (g9 : bad = (atomR d (c :: r)).isNone)
    (g10 : ∀ re r', atomR d (c :: r) = some (re, r') → d5 = d ∧ s :: L5 = r' ∧ Frag M2 M1.length M2.length f l re) (hs : hits [42, 43, 63] bad (s :: L5) = true) : SeqI M d L (goTo (manyM M2 f l s) pl (M2.length + 1)) L5 d5 bad M2.length ∧ (bad = false → L5.length < (c :: r).length) := by
  have hs : (!bad && ([42, 43, 63] : List UInt8).any fun b => b.toNat == s) = true := hs
  have hb : bad = false := by cases bad; rfl; cases hs
  have hs3 : s = 42 ∨ s = 43 ∨ s = 63 := by rw [hb] at hs; simp at hs; omega
  cases ha : atomR d (c :: r) with
  | none => rw [ha] at g9; rw [g9] at hb; cases hb
  | some p =>
    obtain ⟨re, r'⟩ := p
    obtain ⟨e1, e2, e3⟩ := g10 re r' ha
    subst e2
    have hsg : signR re (s :: L5) = ((signOf s).re re, L5) := by
      rw [sign_cons]
      rcases hs3 with rfl | rfl | rfl <;> rfl
    have hl := e3.hl
    have hw := manyM_wt M2 f l s
    simp only [List.length_cons] at g5 g6
    refine ⟨seq_join h (fun _ q hq => ?_) (by rw [manyM_len]; omega) (by rw [manyM_len]; omega) (by simp only [List.length_cons]; omega) (by simp only [List.length_cons]; omega) g7 g8 (fun hb' => by rw [hb] at hb'; cases hb') (fun _ => ⟨e1, (signOf s).re re, fun acc => ?_, ?_⟩), fun _ => by simp only [List.length_cons]; omega⟩
    · rw [manyM_old (by omega) (by omega), g1 hb q hq]
    · rw [seq_go hc ha acc, hsg]
    · rw [manyM_len]
      exact manyM_frag e3
end Go.Proofs.Ytaaikjedagnjbaa

/- The reader's seq, by atom's contract. -/
namespace Go.Proofs.Ytaaikjedagnjbaa
open Go Go.RowKit Go.Lib

/-- What seq does for a text of at most n runes. -/
def SeqC (n : Nat) : Prop := ∀ (w : World) (rb mb : Nat) (N E R : Nat → Prop) (M : List St) (L : List Nat) (d : Nat), L.length ≤ n → Ready w rb mb N E R M L d false → wt M + 16 * L.length ≤ 800000 → d ≤ 6 → L.length ≤ 1000 →
  Calls Try.prog 39 #[.pointer (some ⟨rb, 0, none⟩)] w fun e w' => Got w rb mb N E R M L d 0 1 (seqR d .eps L) e w'
/-- Whether seq goes on. -/
def goB (bad : Bool) (L : List Nat) : Bool := !bad && match L with
  | [] => false
  | c :: _ => !(([124, 41] : List UInt8).any fun b => b.toNat == c)
set_option maxRecDepth 100000 in
set_option maxHeartbeats 12800000 in
theorem seq_of (n : Nat) (hA : AtomC n) : SeqC n := by
  intro w rb mb N E R M L d hn h hwt hd hL
  have hM : M.length ≤ 900000 := Nat.le_trans (wt_len M) (by omega)
  obtain ⟨gc, hgc⟩ : ∃ g, g = w.heap.size := ⟨_, rfl⟩
  obtain ⟨w0, hw0⟩ : ∃ w0, w0 = w.alloc (.cells #[.int .i64 0, .int .i64 0] 50) := ⟨_, rfl⟩
  have k0 : Kp [] w w0 := by rw [hw0]; exact (Kp.refl _ _).alloc _
  have c0 : Cells w0 gc 50 [.int .i64 0, .int .i64 0] := by rw [hw0, hgc]; exact Cells.fresh w 50 _
  have h0 : Ready w0 rb mb N E (fun x => R x ∨ x = gc) M L d false := h.move k0 (fun x hx => by
    rcases hx with hx | hx
    · exact .inl hx
    · exact .inr ⟨by omega, by rw [hx]; exact c0.lt⟩) (.inl h.rR)
  have hgE : ¬ E gc := h.fresh (by omega)
  have hgr : gc ≠ rb := fun e => absurd (h.lt rb h.rR) (by omega)
  have hgN : ¬ N gc := fun e => absurd (h.nE gc e).2 (by omega)
  have q1 := add_any w0 w0 mb E _ M h0.mach (by omega) (Kp.refl _ _) h0.lt (.slice none 0 0) [] (Own.nil _ _) (by intro g hg; cases hg)
  obtain ⟨A4, c4, hc4, -, -, -, -⟩ := h0.rd.ex
  have z0 := hc4.cell 0
  simp only [List.getElem?_cons_zero] at z0
  have hgw : w.heap.size ≤ gc := by omega
  have HH := hid (And.intro h (And.intro hM (And.intro hgE (And.intro hgr (And.intro hgN hgw)))))
  have HB := hid (And.intro hwt (And.intro hL (And.intro hd hn)))
  have H0 := hid (And.intro h0 (And.intro c0 k0))
  have HW0 := hid hw0
  have HGC := hid hgc
  have HA := hid hA
  clear h h0 c0 hw0 hgc k0 hgE hgr hgN hc4 A4 c4 hM hwt hL hd hn hA hgw
  go_enter Try.func39, Try.ntmps39
  go_upto_region 1 with fail
  rw [← HW0.out]
  try rw [← HGC.out]
  clear HW0 HGC
  go_wp2_with fail
  (with_reducible refine q1.mono ?_)
  clear q1 z0
  rintro e w1 ⟨rfl, E1, m1, g1⟩
  have r1 := H0.out.1.grew m1 g1
  have p1 := g1.kq.cells H0.out.2.1 HH.out.2.2.1
  have K1 := (Rew.of_kept E rb H0.out.2.2).trans (Rew.of_grew rb g1)
  obtain ⟨gp, hgp⟩ : ∃ g, g = w1.heap.size := ⟨_, rfl⟩
  obtain ⟨w2, hw2⟩ : ∃ w2, w2 = w1.alloc (.cells #[.int .i64 (M.length : Int), .int .i64 (M.length : Int)] 50) := ⟨_, rfl⟩
  have k2 : Kp [] w1 w2 := by rw [hw2]; exact (Kp.refl _ _).alloc _
  have c2 : Cells w2 gp 50 [.int .i64 (M.length : Int), .int .i64 (M.length : Int)] := by rw [hw2, hgp]; exact Cells.fresh w1 50 _
  have hgc1 := p1.lt
  have r2 : Ready w2 rb mb N E1 (fun x => (R x ∨ x = gc) ∨ x = gp) (M ++ [⟨none, none, []⟩]) L d false := r1.move k2 (fun x hx => by
    rcases hx with hx | hx
    · exact .inl hx
    · exact .inr ⟨by omega, by rw [hx]; exact c2.lt⟩) (.inl (.inl HH.out.1.rR))
  have HP : Hid (gc ≠ gp ∧ gp ≠ rb ∧ gp ≠ rb ∧ ¬ N gp ∧ w.heap.size ≤ gp) := hid ⟨by omega, fun e => absurd (r1.lt rb (.inl HH.out.1.rR)) (by omega), fun e => absurd (r1.lt rb (.inl HH.out.1.rR)) (by omega), fun e => absurd (r1.nE gp e).2 (by omega), by have := K1.kq.size; omega⟩
  have HI := hid (And.intro r2 (And.intro (K1.trans (Rew.of_kept E1 rb k2)) (And.intro (p1.keep k2 (by simp)) c2)))
  have HW2 := hid hw2
  have HGP := hid hgp
  clear r1 p1 K1 hgp hw2 k2 c2 r2 m1 g1 hgc1
  go_wp2_with fail
  rw [← HW2.out]
  try rw [← HGP.out]
  clear HW2 HGP
  go_loopg [5, 6, 7] 2000 (fun g _ _ _ wr => ∃ M1 Lr d1 bad pl Er, Ready wr rb mb N Er (fun x => (R x ∨ x = gc) ∨ x = gp) M1 Lr d1 bad ∧ Rew w E rb wr Er ∧ Cells wr gc 50 [.int .i64 0, .int .i64 0] ∧ Cells wr gp 50 [.int .i64 (M.length : Int), .int .i64 ((pl : Nat) : Int)] ∧ SeqI M d L M1 Lr d1 bad pl ∧ (if bad then 0 else Lr.length + 1) ≤ g)
  case atStart =>
    obtain ⟨i1, i2, i3, i4⟩ := HI.out
    exact ⟨_, L, d, false, M.length, E1, i1, i2, i3, i4, seq_start M d L (Nat.le_succ_of_le HB.out.2.2.1), by have := HB.out.2.1; simp; omega⟩
  case round =>
    obtain ⟨M1, Lr, d1, bad, pl, Er, rr, Kr, cr, pr, si, hms⟩ := hrel
    have HR := hid (And.intro rr (And.intro Kr (And.intro cr (And.intro pr si))))
    have HMS := hid hms
    have qp := peek_any wr rb mb N Lr d1 bad rr.rd
    clear rr Kr cr pr si hms HI
    go_upto_region 3 with fail
    go_cut [24] (fun v24 wx => v24 = .bool (goB bad Lr) ∧ Kp [] wr wx)
    case first =>
      cases bad with
      | true =>
        have e0 : peekR true Lr = -1 := rfl
        rw [e0] at qp
        go_wp2_with fail
        (with_reducible refine qp.mono ?_)
        rintro e w' ⟨rfl, hw⟩
        rw [hw]
        clear qp hw e0
        go_wp2_with fail
        go_meet
        exact ⟨rfl, Kp.refl _ _⟩
      | false =>
        cases Lr with
        | nil =>
          have e0 : peekR false [] = -1 := rfl
          rw [e0] at qp
          go_wp2_with fail
          (with_reducible refine qp.mono ?_)
          rintro e w' ⟨rfl, hw⟩
          rw [hw]
          clear qp hw e0
          go_wp2_with fail
          go_meet
          exact ⟨rfl, Kp.refl _ _⟩
        | cons c r =>
          have e0 : peekR false (c :: r) = (c : Int) := rfl
          rw [e0] at qp
          have qc := contains_any ⟨#[124, 41]⟩ c wr (ascii_of _ (by decide)) (by decide)
          obtain ⟨hit, hhit⟩ : ∃ b, b = ((⟨#[124, 41]⟩ : ByteArray).data.toList.any fun b => b.toNat == c) := ⟨_, rfl⟩
          rw [← hhit] at qc
          have hgo : goB false (c :: r) = !hit := by rw [hhit]; rfl
          have g0 : (0 : Int) ≤ (c : Int) := by omega
          have g1 : decide ((0 : Int) ≤ (c : Int)) = true := decide_eq_true g0
          have HG := hid hgo
          clear hhit e0 hgo
          go_wp2_with fail
          (with_reducible refine qp.mono ?_)
          rintro e w' ⟨rfl, hw⟩
          rw [hw]
          clear hw
          go_wp2_with fail
          (with_reducible refine qp.mono ?_)
          rintro e w' ⟨rfl, hw⟩
          rw [hw]
          clear hw qp
          go_wp2_with fail
          (with_reducible refine qc.mono ?_)
          rintro e w' ⟨rfl, hk⟩
          have HK := hid hk
          clear qc hk
          go_wp2_with fail
          go_meet
          exact ⟨by rw [HG.out], HK.out⟩
    case rest =>
      clear qp
      obtain ⟨rfl, kc⟩ := hcut
      obtain ⟨go, hgo⟩ : ∃ b, b = goB bad Lr := ⟨_, rfl⟩
      rw [← hgo]
      have HC := hid (And.intro (HR.out.1.kept kc) (And.intro (HR.out.2.1.trans (Rew.of_kept Er rb kc)) (And.intro (HR.out.2.2.1.keep kc (by simp)) (And.intro (HR.out.2.2.2.1.keep kc (by simp)) HR.out.2.2.2.2))))
      have HGO := hid hgo
      clear HR hgo kc
      cases go with
      | false =>
        have s0 := HC.out.2.2.2.1.cell 0
        have s1 := HC.out.2.2.2.1.cell 1
        simp only [List.getElem?_cons_zero, List.getElem?_cons_succ] at s0 s1
        obtain ⟨w6, hw6, r6, K6, c6⟩ := Ready.result (R := R) (HC.out.1.less (R' := fun x => R x ∨ x = gc) (fun x hx => .inl hx) (.inl HH.out.1.rR)) HH.out.1.rR HH.out.2.2.2.1 HH.out.2.2.2.2.1 HH.out.2.2.2.2.2 HC.out.2.1 HC.out.2.2.1 (.int .i64 (M.length : Int)) (.int .i64 (pl : Int))
        have HE := hid (And.intro r6 (And.intro K6 c6))
        have HY := hid hw6
        have y0 := HC.out.2.2.1.cell 0
        have y1 := HC.out.2.2.1.cell 1
        have f0 := HC.out.2.2.1.free 0
        have f1 := HC.out.2.2.1.free 1
        simp only [List.getElem?_cons_zero, List.getElem?_cons_succ] at y0 y1
        clear r6 K6 c6 hw6
        go_wp2_with fail
        rw [← HY.out]
        refine bodyPost_ret (results_cell_row rfl _ _ gc 50 _ _ _ rfl HE.out.2.2 Try.underlying50 rfl (by kernel_rfl)) rfl ?_
        obtain ⟨i1, i2, i3, i4, i5, i6, i7, i8, i9⟩ := HC.out.2.2.2.2
        have hgo := HGO.out
        refine ⟨M.length, pl, Er, M1, Lr, d1, bad, rfl, HE.out.1, HE.out.2.1, i1, Nat.le_of_lt i2, i2, i3, by omega, i5, i6, i7, ?_⟩
        cases bad with
        | true =>
          rw [i8 rfl]
          exact ⟨rfl, fun re r e => by cases e⟩
        | false =>
          obtain ⟨e1, acc, e2, hf⟩ := i9 rfl
          have hst : seqR d acc Lr = some (acc, Lr) := seq_stop (by
            cases Lr with
            | nil => exact .inl rfl
            | cons c r =>
              refine .inr ⟨c, r, rfl, ?_⟩
              have : false = (!false && !(([124, 41] : List UInt8).any fun b => b.toNat == c)) := hgo
              simp at this
              omega)
          rw [e2, hst]
          refine ⟨rfl, fun re r e => ?_⟩
          injection e with e
          injection e with e3 e4
          subst e3 e4
          exact ⟨e1, rfl, hf⟩
      | true =>
        obtain ⟨hbad, c, r, hLr, hcs⟩ : bad = false ∧ ∃ c r, Lr = c :: r ∧ ¬ (c = 124 ∨ c = 41) := by
          have hgo := HGO.out
          cases bad
          · cases Lr with
            | nil => cases hgo
            | cons c r =>
              refine ⟨rfl, c, r, rfl, ?_⟩
              have : true = (!false && !(([124, 41] : List UInt8).any fun b => b.toNat == c)) := hgo
              simp at this
              omega
          · cases hgo
        subst hbad hLr
        obtain ⟨rfl, -⟩ := HC.out.2.2.2.2.yes rfl
        have hsz := HC.out.2.2.2.2.size
        have hlf := HC.out.2.2.2.2.left
        have hb := HB.out
        simp only [List.length_cons] at hsz hlf
        have qa := HA.out wc rb mb N Er _ M1 c r d1 (by omega) HC.out.1 (by have := HC.out.2.2.2.2.len; omega) (by omega) hb.2.2.1 (by omega)
        have HCS := hid hcs
        clear hcs hsz hlf hb HGO
        go_upto_region 4 with fail
        go_wp2_with fail
        (with_reducible refine qa.mono ?_)
        clear qa
        rintro e w5 hg
        obtain ⟨f, l, E5, M5, L5, d5, bad5, rfl, r5, K5, g1, g2, g3, g4, g5, g6, g7, g8, g9, g10⟩ := hg.ex
        clear hg
        have cc5 := K5.cells HC.out.2.2.1 (fun h => HC.out.1.mach.apart _ h (.inl (.inr rfl))) HH.out.2.2.2.1
        have cp5 := K5.cells HC.out.2.2.2.1 (fun h => HC.out.1.mach.apart _ h (.inr rfl)) HP.out.2.1
        have KK5 := HC.out.2.1.trans K5
        obtain ⟨gq, hgq⟩ : ∃ g, g = w5.heap.size := ⟨_, rfl⟩
        obtain ⟨w6, hw6⟩ : ∃ w6, w6 = w5.alloc (.cells #[.int .i64 (f : Int), .int .i64 (l : Int)] 50) := ⟨_, rfl⟩
        have k6 : Kp [] w5 w6 := by rw [hw6]; exact (Kp.refl _ _).alloc _
        have c6 : Cells w6 gq 50 [.int .i64 (f : Int), .int .i64 (l : Int)] := by rw [hw6, hgq]; exact Cells.fresh w5 50 _
        have r6 : Ready w6 rb mb N E5 (fun x => ((R x ∨ x = gc) ∨ x = gp) ∨ x = gq) M5 L5 d5 bad5 := r5.move k6 (fun x hx => by
          rcases hx with hx | hx
          · exact .inl hx
          · exact .inr ⟨by omega, by rw [hx]; exact c6.lt⟩) (.inl (.inl (.inl HH.out.1.rR)))
        have hgp5 := cp5.lt
        have hgc5 := cc5.lt
        have HQ : Hid (gq ≠ rb ∧ ¬ N gq ∧ w.heap.size ≤ gq ∧ gq ≠ gp ∧ gq ≠ gc) := hid ⟨fun e => absurd (r5.lt rb (.inl (.inl HH.out.1.rR))) (by omega), fun e => absurd (r5.nE gq e).2 (by omega), by have := KK5.kq.size; omega, by omega, by omega⟩
        have q7 := next_any w6 rb mb N L5 d5 bad5 r6.rd ⟨#[42, 43, 63]⟩ (ascii_of _ (by decide)) (by decide)
        obtain ⟨ok, hok⟩ : ∃ b, b = hits (⟨#[42, 43, 63]⟩ : ByteArray).data.toList bad5 L5 := ⟨_, rfl⟩
        rw [← hok] at q7
        obtain ⟨sg, hsg⟩ : ∃ p, p = peekR bad5 L5 := ⟨_, rfl⟩
        rw [← hsg] at q7
        have HG := hid (And.intro g1 (And.intro g2 (And.intro g3 (And.intro g4 (And.intro g5 (And.intro g6 (And.intro g7 (And.intro g8 (And.intro g9 (And.intro g10 (And.intro hok hsg)))))))))))
        have H6 := hid (And.intro r6 (And.intro c6 (And.intro (cp5.keep k6 (by simp)) (And.intro (cc5.keep k6 (by simp)) (KK5.trans (Rew.of_kept E5 rb k6))))))
        have HW6 := hid hw6
        have HGQ := hid hgq
        clear r5 K5 g1 g2 g3 g4 g5 g6 g7 g8 g9 g10 cc5 cp5 KK5 hgq hw6 k6 c6 r6 hgp5 hgc5 hok hsg
        unfold partV
        go_upto_region 5 with fail
        rw [← HW6.out]
        try rw [← HGQ.out]
        clear HW6 HGQ
        go_wp2_with fail
        (with_reducible refine q7.mono ?_)
        clear q7
        rintro e w7 ⟨rfl, rd7, k7⟩
        have hgqr : gq ∉ [rb] := by simpa using HQ.out.1
        have hgpr : gp ∉ [rb] := by simpa using HP.out.2.1
        have hgcr : gc ∉ [rb] := by simpa using HH.out.2.2.2.1
        have HX := hid (And.intro (H6.out.1.read k7 rd7) (And.intro (H6.out.2.1.keep k7 hgqr) (And.intro (H6.out.2.2.1.keep k7 hgpr) (And.intro (H6.out.2.2.2.1.keep k7 hgcr) (H6.out.2.2.2.2.trans (Rew.of_kp E5 rb k7))))))
        clear rd7 k7 hgqr hgpr hgcr H6
        go_upto_if 32 with fail
        go_cut [] (fun wx => ∃ (M3 : List St) (f3 l3 : Nat) (L6 : List Nat) (E8 : Nat → Prop), Ready wx rb mb N E8 (fun x => (R x ∨ x = gc) ∨ x = gp) M3 L6 d5 bad5 ∧ Cells wx gq 50 [.int .i64 (f3 : Int), .int .i64 (l3 : Int)] ∧ Cells wx gp 50 [.int .i64 (M.length : Int), .int .i64 (pl : Int)] ∧ Cells wx gc 50 [.int .i64 0, .int .i64 0] ∧ Rew w E rb wx E8 ∧ ¬ E8 gq ∧
          (SeqI M d1 L (goTo M3 pl f3) L6 d5 bad5 l3 ∧ (bad5 = false → L6.length < (c :: r).length)) ∧ pl < M3.length ∧ wt M3 ≤ 1000000)
        case first =>
          obtain ⟨g1, g2, g3, g4, g5, g6, g7, g8, g9, g10, hok, hsg⟩ := HG.out
          have hpl := HC.out.2.2.2.2.last
          have hszz := HC.out.2.2.2.2.size
          have hb1 := HB.out.1
          cases ok with
          | false =>
            go_wp2_with fail
            go_meet
            obtain ⟨x1, x2, x3, x4, x5⟩ := HX.out
            simp only [Bool.false_eq_true, if_false] at x1
            exact ⟨M5, f, l, L5, E5, x1.less (fun x hx => .inl hx) (.inl (.inl HH.out.1.rR)), x2, x3, x4, x5, fun h => x1.mach.apart _ h (.inr rfl), seq_step0 HC.out.2.2.2.2 HCS.out g1 g2 g4 g5 g6 g7 g8 g9 g10 hok.symm, by omega, by omega⟩
          | true =>
            obtain ⟨s, L6, rfl, hs3⟩ : ∃ s L6, L5 = s :: L6 ∧ (s = 63 ∨ s = 43 ∨ s = 42) := by
              cases L5 with
              | nil => cases hok
              | cons s L6 =>
                have hok : true = (!bad5 && ([42, 43, 63] : List UInt8).any fun b => b.toNat == s) := hok
                simp at hok
                exact ⟨s, L6, rfl, by omega⟩
            have hb5 : bad5 = false := by
              have hok : true = (!bad5 && ([42, 43, 63] : List UInt8).any fun b => b.toNat == s) := hok
              cases bad5
              · rfl
              · cases hok
            have hsg2 : sg = (s : Int) := by rw [hsg, hb5]; rfl
            clear hsg
            subst hsg2
            obtain ⟨x1, x2, x3, x4, x5⟩ := HX.out
            simp only [if_true, List.tail_cons] at x1
            obtain ⟨A7, c7, hc7, -, -, -, -⟩ := x1.rd.ex
            obtain ⟨n7, hn7⟩ : ∃ n, n = L6.length := ⟨_, rfl⟩
            rw [← hn7] at hc7
            have H7 := hid (And.intro x1 (And.intro x2 (And.intro x3 (And.intro x5 (And.intro hc7 (fun h => x1.mach.apart gq h (.inr rfl)))))))
            have HX4 := hid x4
            have HB5 : Hid (wt M5 ≤ 900000 ∧ l < M5.length ∧ pl < M5.length) := hid ⟨by omega, g4, by omega⟩
            have HS3 := hid hs3
            have HST := hid (seq_step1 HC.out.2.2.2.2 HCS.out g1 g2 g5 g6 g7 g8 g9 g10 hok.symm)
            have HN7 := hid hn7
            clear g1 g2 g3 g4 g5 g6 g7 g8 g9 g10 hok hpl hszz hb1 hs3 hb5 x1 x2 x3 x4 x5 hc7 hn7 HX
            go_upto_region 7 with fail
            refine lin_start (fun W' => Cells W' rb 69 [.pointer (some ⟨mb, 0, none⟩), .slice A7 n7 c7, .int .i64 (d5 : Int), .bool bad5] ∧ Cells W' gq 50 [.int .i64 (f : Int), .int .i64 (l : Int)]) ((Stays.cells _ _ _).and (Stays.cells _ _ _)) (by kernel_rfl) ⟨Cells.drew H7.out.2.2.2.2.1, Cells.drew H7.out.2.1⟩ (fun hSS hS => ?_)
            refine lin_val (i := 0) (v := ?_) rfl (by kernel_rfl) (by kernel_rfl) (by kernel_rfl) (by kernel_rfl) (fun _ _ _ h => h) hSS hS rfl (fun W' hSw => ?_) ?_
            rotate_left
            · go_simp; first | done | with_reducible rfl
            try simp only [Act.put, List.setIfInBounds_toArray, List.set_cons_zero, List.set_cons_succ]
            refine lin_val (i := 1) (v := ?_) rfl (by kernel_rfl) (by kernel_rfl) (by kernel_rfl) (by kernel_rfl) (fun _ _ _ h => h) hSS hS rfl (fun W' hSw => ?_) ?_
            rotate_left
            · go_simp; first | done | with_reducible rfl
            try simp only [Act.put, List.setIfInBounds_toArray, List.set_cons_zero, List.set_cons_succ]
            refine lin_val (i := 2) (v := ?_) rfl (by kernel_rfl) (by kernel_rfl) (by kernel_rfl) (by kernel_rfl) (fun _ _ _ h => h) hSS hS rfl (fun W' hSw => ?_) ?_
            rotate_left
            · go_simp; first | done | with_reducible rfl
            try simp only [Act.put, List.setIfInBounds_toArray, List.set_cons_zero, List.set_cons_succ]
            refine lin_val (i := 3) (v := ?_) rfl (by kernel_rfl) (by kernel_rfl) (by kernel_rfl) (by kernel_rfl) (fun _ _ _ h => h) hSS hS rfl (fun W' hSw => ?_) ?_
            rotate_left
            · have x0 := hSw.1.cell 0; simp only [List.getElem?_cons_zero] at x0; go_simp; first | done | with_reducible rfl
            try simp only [Act.put, List.setIfInBounds_toArray, List.set_cons_zero, List.set_cons_succ]
            refine lin_val (i := 4) (v := ?_) rfl (by kernel_rfl) (by kernel_rfl) (by kernel_rfl) (by kernel_rfl) (fun _ _ _ h => h) hSS hS rfl (fun W' hSw => ?_) ?_
            rotate_left
            · have q0 := hSw.2.cell 0; have q1 := hSw.2.cell 1; simp only [List.getElem?_cons_zero, List.getElem?_cons_succ] at q0 q1; go_simp; first | done | with_reducible rfl
            try simp only [Act.put, List.setIfInBounds_toArray, List.set_cons_zero, List.set_cons_succ]
            refine lin_val (i := 5) (v := ?_) rfl (by kernel_rfl) (by kernel_rfl) (by kernel_rfl) (by kernel_rfl) (fun _ _ _ h => h) hSS hS rfl (fun W' hSw => ?_) ?_
            rotate_left
            · go_simp; first | done | with_reducible rfl
            try simp only [Act.put, List.setIfInBounds_toArray, List.set_cons_zero, List.set_cons_succ]
            refine lin_list (i := 6) (by kernel_rfl) rfl (fun w8 k8 Q2 hQ => ?_)
            have k78 : Kp [] w7 w8 := (Kp.refl _ _).drew.nil k8
            have r8 := (H7.out.1.move (R' := (fun x => ((R x ∨ x = gc) ∨ x = gp) ∨ x = gq)) k78 (fun x hx => by
              rcases hx with hx | hx
              · exact .inl (.inl hx)
              · exact .inl (.inr hx)) (.inl (.inl (.inl HH.out.1.rR))))
            have qm := many_any w8 mb E5 _ M5 r8.mach (Nat.le_trans HB5.out.1 (by decide)) r8.lt f l HB5.out.2.1 s HS3.out
            have H8 := hid (And.intro r8 k78)
            clear k8 k78 r8
            go_wp2_with fail
            (with_reducible refine qm.mono ?_)
            clear qm
            rintro e w9 ⟨rfl, E9, m9, g9⟩
            have r9 := H8.out.1.grew m9 g9
            have cr9 := g9.kq.cells (H7.out.2.2.2.2.1.keep H8.out.2 (by simp)) H7.out.1.rE
            have cq9 := g9.kq.cells (H7.out.2.1.keep H8.out.2 (by simp)) H7.out.2.2.2.2.2
            have H9 := hid (And.intro r9 (And.intro cr9 (And.intro cq9 g9)))
            clear r9 m9 g9
            go_wp2_with fail
            refine hQ.out _ _ ⟨cr9, cq9⟩ (fun hS9 => ?_)
            clear hQ hS cr9 cq9
            try simp only [Act.put, List.setIfInBounds_toArray, List.set_cons_zero, List.set_cons_succ]
            refine lin_last (i := 7) (by kernel_rfl) rfl (by kernel_rfl) (fun w10 k10 K hK => ?_)
            have cq10 := H9.out.2.2.1.keep k10 (by simp)
            have y0 := cq10.cell 0
            have y1 := cq10.cell 1
            have u0 := cq10.free 0
            have u1 := cq10.free 1
            simp only [List.getElem?_cons_zero, List.getElem?_cons_succ] at y0 y1
            have H10 := hid k10
            clear k10 cq10
            go_simp
            refine hK.out _ _ ?_
            clear hK K hS9 hSS y0 y1 u0 u1
            obtain ⟨w11, hw11⟩ : ∃ w11, w11 = (w10.setCell ⟨gq, 0, none⟩ (.int .i64 ((M5.length : Int) + 1))).setCell ⟨gq, 1, none⟩ (.int .i64 (M5.length : Int)) := ⟨_, rfl⟩
            have HW11 := hid hw11
            clear hw11
            go_wp2_with fail
            go_meet
            obtain ⟨r9, cr9, cq9, g9⟩ := H9.out
            have k10 := H10.out
            have hEq : ¬ E9 gq := fun h => r9.mach.apart _ h (.inr rfl)
            have hx3 := (g9.kq.cells (H7.out.2.2.1.keep H8.out.2 (by simp)) (fun h => H8.out.1.mach.apart _ h (.inl (.inr rfl)))).keep k10 (by simp)
            have hx4 := (g9.kq.cells (HX4.out.keep H8.out.2 (by simp)) (fun h => H8.out.1.mach.apart _ h (.inl (.inl (.inr rfl))))).keep k10 (by simp)
            have k11 : Kp [gq] w10 w11 := by rw [HW11.out]; exact ((Kp.refl _ _).setCell (fun _ => by simp) _).setCell (fun _ => by simp) _
            have r11 := ((r9.kept k10).wrote k11 (.inr rfl) HQ.out.1 HQ.out.2.1).less (R' := (fun x => (R x ∨ x = gc) ∨ x = gp)) (fun x hx => .inl hx) (.inl (.inl HH.out.1.rR))
            have K11 := (((H7.out.2.2.2.1.trans (Rew.of_kept E5 rb H8.out.2)).trans (Rew.of_grew rb g9)).trans (Rew.of_kept E9 rb k10)).fresh k11 HQ.out.2.2.1
            rw [← HW11.out]
            exact ⟨manyM M5 f l s, M5.length + 1, M5.length, L6, E9, r11, by rw [HW11.out]; exact ((cq9.keep k10 (by simp)).put 0 _).put 1 _, hx3.keep k11 (by simpa using Ne.symm HQ.out.2.2.2.1), hx4.keep k11 (by simpa using Ne.symm HQ.out.2.2.2.2), K11, hEq, HST.out, by rw [manyM_len]; have := HB5.out.2.2; omega, Nat.le_trans (manyM_wt _ _ _ _) (by have := HB5.out.1; omega)⟩
        case rest =>
          obtain ⟨M3, f3, l3, L6, E8, r8, c8q, c8p, c8c, K8, h8q, hsi, hpl, hwt3⟩ := hcut
          obtain ⟨A8, c8, hc8, -, -, -, -⟩ := r8.rd.ex
          have x0 := hc8.cell 0
          have p1 := c8p.cell 1
          have q0 := c8q.cell 0
          simp only [List.getElem?_cons_zero, List.getElem?_cons_succ] at x0 p1 q0
          have H8 := hid (And.intro r8 (And.intro c8q (And.intro c8p (And.intro c8c (And.intro K8 (And.intro h8q (And.intro hsi (And.intro hpl hwt3))))))))
          clear r8 c8q c8p c8c K8 h8q hsi hpl hwt3 hc8 A8 c8 HX HG HC
          go_upto_region 8 with fail
          refine lin_start (fun W' => Kp [] wc W') (Stays.kp _ _) (by kernel_rfl) (Kp.refl _ _).drew (fun hSS hS => ?_)
          refine lin_val (i := 0) (v := ?_) rfl (by kernel_rfl) (by kernel_rfl) (by kernel_rfl) (by kernel_rfl) (fun _ _ _ h => h) hSS hS rfl (fun W' hSw => ?_) ?_
          rotate_left
          · go_simp; first | done | with_reducible rfl
          try simp only [Act.put, List.setIfInBounds_toArray, List.set_cons_zero, List.set_cons_succ]
          refine lin_val (i := 1) (v := ?_) rfl (by kernel_rfl) (by kernel_rfl) (by kernel_rfl) (by kernel_rfl) (fun _ _ _ h => h) hSS hS rfl (fun W' hSw => ?_) ?_
          rotate_left
          · go_simp; first | done | with_reducible rfl
          try simp only [Act.put, List.setIfInBounds_toArray, List.set_cons_zero, List.set_cons_succ]
          refine lin_val (i := 2) (v := ?_) rfl (by kernel_rfl) (by kernel_rfl) (by kernel_rfl) (by kernel_rfl) (fun _ _ _ h => h) hSS hS rfl (fun W' hSw => ?_) ?_
          rotate_left
          · go_simp; first | done | with_reducible rfl
          try simp only [Act.put, List.setIfInBounds_toArray, List.set_cons_zero, List.set_cons_succ]
          refine lin_val (i := 3) (v := ?_) rfl (by kernel_rfl) (by kernel_rfl) (by kernel_rfl) (by kernel_rfl) (fun _ _ _ h => h) hSS hS rfl (fun W' hSw => ?_) ?_
          rotate_left
          · have x0 := hSw.cell x0 (by simp); go_simp; first | done | with_reducible rfl
          try simp only [Act.put, List.setIfInBounds_toArray, List.set_cons_zero, List.set_cons_succ]
          refine lin_val (i := 4) (v := ?_) rfl (by kernel_rfl) (by kernel_rfl) (by kernel_rfl) (by kernel_rfl) (fun _ _ _ h => h) hSS hS rfl (fun W' hSw => ?_) ?_
          rotate_left
          · go_simp; first | done | with_reducible rfl
          try simp only [Act.put, List.setIfInBounds_toArray, List.set_cons_zero, List.set_cons_succ]
          refine lin_val (i := 5) (v := ?_) rfl (by kernel_rfl) (by kernel_rfl) (by kernel_rfl) (by kernel_rfl) (fun _ _ _ h => h) hSS hS rfl (fun W' hSw => ?_) ?_
          rotate_left
          · have p1 := hSw.cell p1 (by simp); go_simp; first | done | with_reducible rfl
          try simp only [Act.put, List.setIfInBounds_toArray, List.set_cons_zero, List.set_cons_succ]
          refine lin_val (i := 6) (v := ?_) rfl (by kernel_rfl) (by kernel_rfl) (by kernel_rfl) (by kernel_rfl) (fun _ _ _ h => h) hSS hS rfl (fun W' hSw => ?_) ?_
          rotate_left
          · go_simp; first | done | with_reducible rfl
          try simp only [Act.put, List.setIfInBounds_toArray, List.set_cons_zero, List.set_cons_succ]
          refine lin_val (i := 7) (v := ?_) rfl (by kernel_rfl) (by kernel_rfl) (by kernel_rfl) (by kernel_rfl) (fun _ _ _ h => h) hSS hS rfl (fun W' hSw => ?_) ?_
          rotate_left
          · have q0 := hSw.cell q0 (by simp); go_simp; first | done | with_reducible rfl
          try simp only [Act.put, List.setIfInBounds_toArray, List.set_cons_zero, List.set_cons_succ]
          refine lin_listLast (i := 8) (by kernel_rfl) rfl (by kernel_rfl) (fun w9 k9 Q2 hQ => ?_)
          have k9' : Kp [] wc w9 := (Kp.refl _ _).drew.nil k9
          have r9 := H8.out.1.kept k9'
          have qt := toM_any w9 mb E8 _ M3 r9.mach H8.out.2.2.2.2.2.2.2.2 r9.lt pl f3 H8.out.2.2.2.2.2.2.2.1
          have H9 := hid (And.intro r9 k9')
          clear k9 k9' r9 hS hSS
          go_wp2_with fail
          (with_reducible refine qt.mono ?_)
          clear qt
          rintro e w10 ⟨rfl, E10, m10, g10⟩
          have r10 := H9.out.1.grew m10 g10
          have cq10 := g10.kq.cells (H8.out.2.1.keep H9.out.2 (by simp)) H8.out.2.2.2.2.2.1
          have cp10 := g10.kq.cells (H8.out.2.2.1.keep H9.out.2 (by simp)) (fun h => H8.out.1.mach.apart _ h (.inr rfl))
          have cc10 := g10.kq.cells (H8.out.2.2.2.1.keep H9.out.2 (by simp)) (fun h => H8.out.1.mach.apart _ h (.inl (.inr rfl)))
          have K10 := (H8.out.2.2.2.2.1.trans (Rew.of_kept E8 rb H9.out.2)).trans (Rew.of_grew rb g10)
          obtain ⟨w11, hw11⟩ : ∃ w11, w11 = w10.setCell ⟨gp, 1, none⟩ (.int .i64 (l3 : Int)) := ⟨_, rfl⟩
          have k11 : Kp [gp] w10 w11 := by rw [hw11]; exact (Kp.refl _ _).setCell (fun _ => by simp) _
          have r11 := r10.wrote k11 (.inr rfl) HP.out.2.2.1 HP.out.2.2.2.1
          have cp11 : Cells w11 gp 50 [.int .i64 (M.length : Int), .int .i64 (l3 : Int)] := by rw [hw11]; exact cp10.put 1 _
          have cc11 := cc10.keep k11 (by simpa using HP.out.1)
          have K11 := K10.fresh k11 HP.out.2.2.2.2
          have H11 := hid (And.intro r11 (And.intro K11 (And.intro cc11 cp11)))
          have HW11 := hid hw11
          have q1 := cq10.cell 1
          have p1 := cp10.cell 1
          have u1 := cp10.free 1
          simp only [List.getElem?_cons_zero, List.getElem?_cons_succ] at q1 p1
          clear r10 cq10 cp10 cc10 K10 k11 r11 cp11 cc11 K11 hw11 m10 g10
          go_wp2_with fail
          refine hQ.out _ _ ?_
          clear hQ
          go_wp2_with fail
          rw [← HW11.out]
          clear HW11
          go_roundg (gk - 1)
          case measure => have := HMS.out; simp only [Bool.false_eq_true, if_false] at this; omega
          case rel =>
            obtain ⟨s1, s2⟩ := H8.out.2.2.2.2.2.2.1
            refine ⟨_, L6, d5, bad5, l3, E10, H11.out.1, H11.out.2.1, H11.out.2.2.1, H11.out.2.2.2, s1, ?_⟩
            have := HMS.out
            simp only [Bool.false_eq_true, if_false] at this
            cases hb : bad5
            · have := s2 hb
              simp only [Bool.false_eq_true, if_false]
              omega
            · simp only [if_true]
              omega
end Go.Proofs.Ytaaikjedagnjbaa

/- The reader's alt: what a round does to what was read. Plain. -/
namespace Go.Proofs.Ytaaikjedagnjbaa
open Go Go.RowKit Go.Lib

/-- Some seqs were read: the machine M grew to M' by a part from pf to pl. -/
structure AltI (M : List St) (d : Nat) (L : List Nat) (M' : List St) (Lr : List Nat) (d' : Nat) (bad : Bool) (pf pl : Nat) : Prop where
  old : bad = false → ∀ q, q < M.length → M'[q]? = M[q]?
  len : M.length ≤ M'.length
  first : pf < M'.length
  last : pl < M'.length
  size : wt M' + 16 * Lr.length ≤ wt M + 16 * L.length + 1
  left : Lr.length ≤ L.length
  d1 : d ≤ d'
  d2 : d' ≤ 7
  no : bad = true → altR d L = none
  yes : bad = false → d' = d ∧ ∃ acc, altR d L = barR d acc Lr ∧ Frag M' M.length M'.length pf pl acc
theorem alt_start {M M1 : List St} {d d5 f l : Nat} {L L5 : List Nat} {bad : Bool} (g1 : bad = false → ∀ q, q < M.length → M1[q]? = M[q]?) (g2 : M.length ≤ M1.length) (g3 : f < M1.length) (g4 : l < M1.length) (g5 : wt M1 + 16 * L5.length + 0 ≤ wt M + 16 * L.length + 1) (g6 : L5.length ≤ L.length)
    (g7 : d ≤ d5) (g8 : d5 ≤ 7) (g9 : bad = (seqR d .eps L).isNone) (g10 : ∀ re r, seqR d .eps L = some (re, r) → d5 = d ∧ L5 = r ∧ Frag M1 M.length M1.length f l re) : AltI M d L M1 L5 d5 bad f l := by
  refine ⟨g1, g2, g3, g4, g5, g6, g7, g8, fun hb => ?_, fun hb => ?_⟩
  · rw [alt_step]
    cases ha : seqR d .eps L with
    | none => rfl
    | some p => rw [ha] at g9; rw [g9] at hb; cases hb
  · rw [alt_step]
    cases ha : seqR d .eps L with
    | none => rw [ha] at g9; rw [g9] at hb; cases hb
    | some p =>
      obtain ⟨re, r⟩ := p
      obtain ⟨e1, e2, e3⟩ := g10 re r ha
      exact ⟨e1, re, by rw [e2]; rfl, e3⟩
theorem bar_stop {d : Nat} {acc : Re} {L : List Nat} (h : hits [124] false L = false) : barR d acc L = some (acc, L) := by
  cases L with
  | nil => exact bar_nil d acc
  | cons c r =>
    have h : (!false && ([124] : List UInt8).any fun b => b.toNat == c) = false := h
    simp at h
    rw [bar_cons, if_neg (by omega)]
/-- Two seqs, a bar between. -/
def barM (M : List St) (pf pl f l : Nat) : List St := goTo (goTo ((M ++ [⟨none, none, []⟩]) ++ [⟨none, none, [pf, f]⟩]) pl M.length) l M.length
theorem barM_len (M : List St) (pf pl f l : Nat) : (barM M pf pl f l).length = M.length + 2 := by simp [barM, goTo_len]
theorem barM_wt (M : List St) (pf pl f l : Nat) : wt (barM M pf pl f l) ≤ wt M + 6 := by
  unfold barM
  have h1 := goTo_wt (goTo ((M ++ [(⟨none, none, []⟩ : St)]) ++ [⟨none, none, [pf, f]⟩]) pl M.length) l M.length
  have h2 := goTo_wt ((M ++ [(⟨none, none, []⟩ : St)]) ++ [⟨none, none, [pf, f]⟩]) pl M.length
  have h0 : wt ((M ++ [(⟨none, none, []⟩ : St)]) ++ [⟨none, none, [pf, f]⟩]) = wt M + 4 := by rw [wt_append, wt_append]; rfl
  omega
theorem barM_old {M : List St} {pf pl f l q : Nat} (hq : q < M.length) (h1 : q ≠ pl) (h2 : q ≠ l) : (barM M pf pl f l)[q]? = M[q]? := by
  unfold barM
  rw [goTo_ne h2, goTo_ne h1, List.getElem?_append_left (by rw [List.length_append]; omega), List.getElem?_append_left hq]
theorem alt_round {M M1 M2 : List St} {d : Nat} {L L1 L5 : List Nat} {d5 pf pl f l : Nat} {bad : Bool} (h : AltI M d L M1 (124 :: L1) d false pf pl) (g1 : bad = false → ∀ q, q < M1.length → M2[q]? = M1[q]?) (g2 : M1.length ≤ M2.length)
    (g5 : wt M2 + 16 * L5.length + 0 ≤ wt M1 + 16 * L1.length + 1) (g6 : L5.length ≤ L1.length) (g7 : d ≤ d5) (g8 : d5 ≤ 7) (g9 : bad = (seqR d .eps L1).isNone) (g10 : ∀ re r, seqR d .eps L1 = some (re, r) → d5 = d ∧ L5 = r ∧ Frag M2 M1.length M2.length f l re) :
    AltI M d L (barM M2 pf pl f l) L5 d5 bad (M2.length + 1) M2.length := by
  obtain ⟨-, acc, e, hf⟩ := h.yes rfl
  have hpl := hf.hl
  have hw := barM_wt M2 pf pl f l
  have hsz := h.size
  have hlen := h.len
  have hleft := h.left
  simp only [List.length_cons] at hsz hleft
  cases ha : seqR d .eps L1 with
  | none =>
    rw [ha] at g9
    have hb : bad = true := g9
    subst hb
    refine ⟨(fun hb' => by cases hb'), by rw [barM_len]; omega, by rw [barM_len]; omega, by rw [barM_len]; omega, by omega, by omega, g7, g8, fun _ => ?_, fun hb' => by cases hb'⟩
    rw [e, bar_cons, if_pos rfl, ha]; rfl
  | some p =>
    obtain ⟨re, r⟩ := p
    obtain ⟨e1, e2, e3⟩ := g10 re r ha
    have hb : bad = false := by rw [g9, ha]; rfl
    have hl := e3.hl
    refine ⟨fun _ q hq => ?_, by rw [barM_len]; omega, by rw [barM_len]; omega, by rw [barM_len]; omega, by omega, by omega, g7, g8, (fun hb' => by rw [hb] at hb'; cases hb'), fun _ => ⟨e1, .alt acc re, ?_, ?_⟩⟩
    · rw [barM_old (by omega) (by omega) (by omega), g1 hb q (by omega), h.old rfl q hq]
    · rw [e, bar_cons, if_pos rfl, ha, e2]; rfl
    · rw [barM_len]
      have hfl : Frag M2 M.length M1.length pf pl acc := hf.later (fun q _ hq => g1 hb q hq) g2
      obtain ⟨st, hs1, ⟨hs2, hs3⟩, hs4⟩ := hfl.last
      have hst : M2[pl]? = some ⟨none, none, []⟩ := by rw [hs1]; cases st; simp_all
      obtain ⟨st', ht1, ⟨ht2, ht3⟩, ht4⟩ := e3.last
      have hst' : M2[l]? = some ⟨none, none, []⟩ := by rw [ht1]; cases st'; simp_all
      have a0 : ∀ q, q < M2.length → ((M2 ++ [(⟨none, none, []⟩ : St)]) ++ [⟨none, none, [pf, f]⟩])[q]? = M2[q]? := fun q hq => by
        rw [List.getElem?_append_left (by rw [List.length_append]; omega), List.getElem?_append_left hq]
      have b1 : ((M2 ++ [(⟨none, none, []⟩ : St)]) ++ [⟨none, none, [pf, f]⟩])[pl]? = some ⟨none, none, []⟩ := by rw [a0 pl (by omega), hst]
      have b2 : ((M2 ++ [(⟨none, none, []⟩ : St)]) ++ [⟨none, none, [pf, f]⟩])[l]? = some ⟨none, none, []⟩ := by rw [a0 l (by omega), hst']
      have n1 : pl ≠ l := by omega
      refine frag_alt hfl e3 (fun q _ hq hn1 hn2 => barM_old hq hn1 hn2) ?_ ?_ ?_ ?_
      · unfold barM
        rw [goTo_ne n1]
        exact goTo_at b1
      · unfold barM
        have b3 : (goTo ((M2 ++ [(⟨none, none, []⟩ : St)]) ++ [⟨none, none, [pf, f]⟩]) pl M2.length)[l]? = some ⟨none, none, []⟩ := by rw [goTo_ne (Ne.symm n1), b2]
        exact goTo_at b3
      · unfold barM
        rw [goTo_ne (by omega), goTo_ne (by omega), List.getElem?_append_left (by simp), List.getElem?_append_right (Nat.le_refl _), Nat.sub_self]
        rfl
      · unfold barM
        rw [goTo_ne (by omega), goTo_ne (by omega), List.getElem?_append_right (by simp)]
        simp
end Go.Proofs.Ytaaikjedagnjbaa

/- The reader's alt, by seq's contract; and so the three of them. -/
namespace Go.Proofs.Ytaaikjedagnjbaa
open Go Go.RowKit Go.Lib

set_option maxRecDepth 100000 in
set_option maxHeartbeats 12800000 in
theorem alt_of (n : Nat) (hA : SeqC n) : AltC (n + 1) := by
  intro w rb mb N E R M L d hn h hwt hd hL
  obtain ⟨gc, hgc⟩ : ∃ g, g = w.heap.size := ⟨_, rfl⟩
  obtain ⟨w0, hw0⟩ : ∃ w0, w0 = w.alloc (.cells #[.int .i64 0, .int .i64 0] 50) := ⟨_, rfl⟩
  have k0 : Kp [] w w0 := by rw [hw0]; exact (Kp.refl _ _).alloc _
  have c0 : Cells w0 gc 50 [.int .i64 0, .int .i64 0] := by rw [hw0, hgc]; exact Cells.fresh w 50 _
  have h0 : Ready w0 rb mb N E (fun x => R x ∨ x = gc) M L d false := h.move k0 (fun x hx => by
    rcases hx with hx | hx
    · exact .inl hx
    · exact .inr ⟨by omega, by rw [hx]; exact c0.lt⟩) (.inl h.rR)
  have hgE : ¬ E gc := h.fresh (by omega)
  have hgr : gc ≠ rb := fun e => absurd (h.lt rb h.rR) (by omega)
  have hgN : ¬ N gc := fun e => absurd (h.nE gc e).2 (by omega)
  have qs := hA w0 rb mb N E _ M L d (by omega) h0 hwt hd hL
  have hgw : w.heap.size ≤ gc := by omega
  have HH := hid (And.intro h (And.intro (Nat.le_of_lt_succ hn) (And.intro hgE (And.intro hgr (And.intro hgN hgw)))))
  have HB := hid (And.intro hwt (And.intro hL hd))
  have H0 := hid (And.intro h0 (And.intro c0 k0))
  have HW0 := hid hw0
  have HGC := hid hgc
  have HA := hid hA
  clear h h0 c0 hw0 hgc k0 hgE hgr hgN hwt hL hd hn hA hgw
  go_enter Try.func34, Try.ntmps34
  go_upto_region 1 with fail
  rw [← HW0.out]
  try rw [← HGC.out]
  clear HW0 HGC
  go_wp2_with fail
  (with_reducible refine qs.mono ?_)
  clear qs
  rintro e w1 hg
  obtain ⟨f, l, E1, M1, L1, d1, bad1, rfl, r1, K1, g1, g2, g3, g4, g5, g6, g7, g8, g9, g10⟩ := hg.ex
  clear hg
  have p1 := K1.cells H0.out.2.1 HH.out.2.2.1 HH.out.2.2.2.1
  have KK1 := (Rew.of_kept E rb H0.out.2.2).trans K1
  obtain ⟨gp, hgp⟩ : ∃ g, g = w1.heap.size := ⟨_, rfl⟩
  obtain ⟨w2, hw2⟩ : ∃ w2, w2 = w1.alloc (.cells #[.int .i64 (f : Int), .int .i64 (l : Int)] 50) := ⟨_, rfl⟩
  have k2 : Kp [] w1 w2 := by rw [hw2]; exact (Kp.refl _ _).alloc _
  have c2 : Cells w2 gp 50 [.int .i64 (f : Int), .int .i64 (l : Int)] := by rw [hw2, hgp]; exact Cells.fresh w1 50 _
  have hgc1 := p1.lt
  have r2 : Ready w2 rb mb N E1 (fun x => (R x ∨ x = gc) ∨ x = gp) M1 L1 d1 bad1 := r1.move k2 (fun x hx => by
    rcases hx with hx | hx
    · exact .inl hx
    · exact .inr ⟨by omega, by rw [hx]; exact c2.lt⟩) (.inl (.inl HH.out.1.rR))
  have HP : Hid (gc ≠ gp ∧ gp ≠ rb ∧ gp ≠ rb ∧ ¬ N gp ∧ w.heap.size ≤ gp) := hid ⟨by omega, fun e => absurd (r1.lt rb (.inl HH.out.1.rR)) (by omega), fun e => absurd (r1.lt rb (.inl HH.out.1.rR)) (by omega), fun e => absurd (r1.nE gp e).2 (by omega), by have := KK1.kq.size; omega⟩
  have HI := hid (And.intro r2 (And.intro (KK1.trans (Rew.of_kept E1 rb k2)) (And.intro (p1.keep k2 (by simp)) (And.intro c2 (alt_start g1 g2 g3 g4 g5 g6 g7 g8 g9 g10)))))
  have HW2 := hid hw2
  have HGP := hid hgp
  clear r1 p1 K1 KK1 hgp hw2 k2 c2 r2 g1 g2 g3 g4 g5 g6 g7 g8 g9 g10 hgc1
  unfold partV
  go_wp2_with fail
  rw [← HW2.out]
  try rw [← HGP.out]
  clear HW2 HGP
  go_loopg [4, 5, 6, 7, 8] 2000 (fun g _ _ _ _ _ wr => ∃ M1 Lr d1 bad pf pl Er, Ready wr rb mb N Er (fun x => (R x ∨ x = gc) ∨ x = gp) M1 Lr d1 bad ∧ Rew w E rb wr Er ∧ Cells wr gc 50 [.int .i64 0, .int .i64 0] ∧ Cells wr gp 50 [.int .i64 ((pf : Nat) : Int), .int .i64 ((pl : Nat) : Int)] ∧ AltI M d L M1 Lr d1 bad pf pl ∧ (if bad then 0 else Lr.length + 1) ≤ g)
  case atStart =>
    obtain ⟨i1, i2, i3, i4, i5⟩ := HI.out
    refine ⟨_, _, _, _, f, l, E1, i1, i2, i3, i4, i5, ?_⟩
    have := i5.left
    have := HB.out.2.1
    split <;> omega
  case round =>
    obtain ⟨M1, Lr, d1, bad, pf, pl, Er, rr, Kr, cr, pr, ai, hms⟩ := hrel
    have q3 := next_any wr rb mb N Lr d1 bad rr.rd ⟨#[124]⟩ (ascii_of _ (by decide)) (by decide)
    obtain ⟨ok, hok⟩ : ∃ b, b = hits (⟨#[124]⟩ : ByteArray).data.toList bad Lr := ⟨_, rfl⟩
    rw [← hok] at q3
    obtain ⟨sg, hsg⟩ : ∃ p, p = peekR bad Lr := ⟨_, rfl⟩
    rw [← hsg] at q3
    have HR := hid (And.intro rr (And.intro Kr (And.intro cr (And.intro pr (And.intro ai hok)))))
    have HMS := hid hms
    clear rr Kr cr pr ai hms HI hok hsg
    go_wp2_with fail
    (with_reducible refine q3.mono ?_)
    clear q3
    rintro e w3 ⟨rfl, rd3, k3⟩
    have HC := hid (And.intro (HR.out.1.read k3 rd3) (And.intro (HR.out.2.1.trans (Rew.of_kp Er rb k3)) (And.intro (HR.out.2.2.1.keep k3 (by simpa using HH.out.2.2.2.1)) (And.intro (HR.out.2.2.2.1.keep k3 (by simpa using HP.out.2.1)) HR.out.2.2.2.2))))
    clear HR rd3 k3
    cases ok with
    | false =>
      have s0 := HC.out.2.2.2.1.cell 0
      have s1 := HC.out.2.2.2.1.cell 1
      simp only [List.getElem?_cons_zero, List.getElem?_cons_succ] at s0 s1
      obtain ⟨w6, hw6, r6, K6, c6⟩ := Ready.result (R := R) (HC.out.1.less (R' := fun x => R x ∨ x = gc) (fun x hx => .inl hx) (.inl HH.out.1.rR)) HH.out.1.rR HH.out.2.2.2.1 HH.out.2.2.2.2.1 HH.out.2.2.2.2.2 HC.out.2.1 HC.out.2.2.1 (.int .i64 (pf : Int)) (.int .i64 (pl : Int))
      have HE := hid (And.intro r6 (And.intro K6 c6))
      have HY := hid hw6
      have y0 := HC.out.2.2.1.cell 0
      have y1 := HC.out.2.2.1.cell 1
      have f0 := HC.out.2.2.1.free 0
      have f1 := HC.out.2.2.1.free 1
      simp only [List.getElem?_cons_zero, List.getElem?_cons_succ] at y0 y1
      clear r6 K6 c6 hw6
      go_wp2_with fail
      rw [← HY.out]
      refine bodyPost_ret (results_cell_row rfl _ _ gc 50 _ _ _ rfl HE.out.2.2 Try.underlying50 rfl (by kernel_rfl)) rfl ?_
      obtain ⟨i1, i2, i3, i4, i5, i6, i7, i8, i9, i10⟩ := HC.out.2.2.2.2.1
      have hok := HC.out.2.2.2.2.2
      have he1 := HE.out.1
      simp only [Bool.false_eq_true, if_false] at he1
      refine ⟨pf, pl, Er, M1, Lr, d1, bad, rfl, he1, HE.out.2.1, i1, i2, i3, i4, by omega, i6, i7, i8, ?_⟩
      cases bad with
      | true =>
        rw [i9 rfl]
        exact ⟨rfl, fun re r e => by cases e⟩
      | false =>
        obtain ⟨e1, acc, e2, hf⟩ := i10 rfl
        rw [e2, bar_stop hok.symm]
        refine ⟨rfl, fun re r e => ?_⟩
        injection e with e
        injection e with e3 e4
        subst e3 e4
        exact ⟨e1, rfl, hf⟩
    | true =>
      obtain ⟨hbad, r, hLr⟩ : bad = false ∧ ∃ r, Lr = 124 :: r := by
        have hok := HC.out.2.2.2.2.2
        cases Lr with
        | nil => cases hok
        | cons c r =>
          have hok : true = (!bad && ([124] : List UInt8).any fun b => b.toNat == c) := hok
          simp at hok
          exact ⟨hok.1, r, by rw [hok.2]⟩
      subst hbad hLr
      obtain ⟨rfl, -⟩ := HC.out.2.2.2.2.1.yes rfl
      have hrc := HC.out.1
      simp only [if_true, List.tail_cons] at hrc
      have hsz := HC.out.2.2.2.2.1.size
      have hlf := HC.out.2.2.2.2.1.left
      have hb := HB.out
      simp only [List.length_cons] at hsz hlf
      have qa := HA.out w3 rb mb N Er _ M1 r d1 (by have := HH.out.2.1; omega) hrc (by omega) hb.2.2 (by omega)
      have HRC := hid hrc
      clear hsz hlf hb hrc
      go_wp2_with fail
      (with_reducible refine qa.mono ?_)
      clear qa
      rintro e w5 hg
      obtain ⟨f, l, E5, M5, L5, d5, bad5, rfl, r5, K5, g1, g2, g3, g4, g5, g6, g7, g8, g9, g10⟩ := hg.ex
      clear hg
      have cc5 := K5.cells HC.out.2.2.1 (fun h => HRC.out.mach.apart _ h (.inl (.inr rfl))) HH.out.2.2.2.1
      have cp5 := K5.cells HC.out.2.2.2.1 (fun h => HRC.out.mach.apart _ h (.inr rfl)) HP.out.2.1
      have KK5 := HC.out.2.1.trans K5
      obtain ⟨gq, hgq⟩ : ∃ g, g = w5.heap.size := ⟨_, rfl⟩
      obtain ⟨w6, hw6⟩ : ∃ w6, w6 = w5.alloc (.cells #[.int .i64 (f : Int), .int .i64 (l : Int)] 50) := ⟨_, rfl⟩
      have k6 : Kp [] w5 w6 := by rw [hw6]; exact (Kp.refl _ _).alloc _
      have c6 : Cells w6 gq 50 [.int .i64 (f : Int), .int .i64 (l : Int)] := by rw [hw6, hgq]; exact Cells.fresh w5 50 _
      have r6 := r5.kept k6
      have hgqE : ¬ E5 gq := r5.fresh (by omega)
      have hszz := HC.out.2.2.2.2.1.size
      have hb1 := HB.out.1
      simp only [List.length_cons] at hszz
      have hai := alt_round HC.out.2.2.2.2.1 g1 g2 g5 g6 g7 g8 g9 g10
      have hpl5 : pl < M5.length := Nat.lt_of_lt_of_le HC.out.2.2.2.2.1.last g2
      have HG : Hid (AltI M d1 L (barM M5 pf pl f l) L5 d5 bad5 (M5.length + 1) M5.length ∧ L5.length < (124 :: r).length ∧ wt M5 ≤ 900000 ∧ l < M5.length ∧ pl < M5.length) := hid ⟨hai, by simp only [List.length_cons]; omega, by omega, g4, hpl5⟩
      have HLN : Hid (M5.length + 1 ≤ 1000000) := hid (by have := wt_len M5; omega)
      have qn := add_any w6 w6 mb E5 _ M5 r6.mach (by have := HLN.out; omega) (Kp.refl _ _) r6.lt (.slice none 0 0) [] (Own.nil _ _) (by intro g hg; cases hg)
      obtain ⟨A7, c7, hc7, -, -, -, -⟩ := r6.rd.ex
      obtain ⟨n7, hn7⟩ : ∃ n, n = L5.length := ⟨_, rfl⟩
      rw [← hn7] at hc7
      have z0 := hc7.cell 0
      simp only [List.getElem?_cons_zero] at z0
      have H6 := hid (And.intro r6 (And.intro c6 (And.intro (cp5.keep k6 (by simp)) (And.intro (cc5.keep k6 (by simp)) (And.intro (KK5.trans (Rew.of_kept E5 rb k6)) hgqE)))))
      have HCR6 := hid hc7
      have HN7 := hid hn7
      have HW6 := hid hw6
      have HGQ := hid hgq
      clear r5 K5 g1 g2 g3 g4 g5 g6 g7 g8 g9 g10 cc5 cp5 KK5 hgq hw6 k6 c6 r6 hgqE hszz hb1 hai hpl5 hc7 hn7 HC HRC
      unfold partV
      go_upto_region 6 with fail
      rw [← HW6.out]
      try rw [← HGQ.out]
      clear HW6 HGQ
      go_wp2_with fail
      (with_reducible refine qn.mono ?_)
      clear qn z0
      rintro e w7 ⟨rfl, E7, m7, g7⟩
      have hRg : ∀ x, (R x ∨ x = gc) ∨ x = gp → ¬ E5 x := fun x hx h => H6.out.1.mach.apart _ h hx
      have H7 := hid (And.intro (H6.out.1.grew m7 g7) (And.intro (g7.kq.cells H6.out.2.1 H6.out.2.2.2.2.2) (And.intro (g7.kq.cells H6.out.2.2.1 (hRg _ (.inr rfl))) (And.intro (g7.kq.cells H6.out.2.2.2.1 (hRg _ (.inl (.inr rfl)))) (And.intro (H6.out.2.2.2.2.1.trans (Rew.of_grew rb g7)) (g7.out H6.out.2.1.lt H6.out.2.2.2.2.2))))))
      have HCR := hid (g7.kq.cells HCR6.out (hRg _ (.inl (.inl HH.out.1.rR))))
      have H7C := hid (And.intro HCR.out (And.intro H7.out.2.2.1 H7.out.2.1))
      clear m7 g7 hRg H6 HCR6
      go_upto_region 7 with fail
      refine lin_start (fun W' => (Cells W' rb 69 [.pointer (some ⟨mb, 0, none⟩), .slice A7 n7 c7, .int .i64 (d5 : Int), .bool bad5] ∧ Cells W' gp 50 [.int .i64 (pf : Int), .int .i64 (pl : Int)]) ∧ Cells W' gq 50 [.int .i64 (f : Int), .int .i64 (l : Int)]) (((Stays.cells _ _ _).and (Stays.cells _ _ _)).and (Stays.cells _ _ _)) (by kernel_rfl) ⟨⟨Cells.drew HCR.out, Cells.drew H7.out.2.2.1⟩, Cells.drew H7.out.2.1⟩ (fun hSS hS => ?_)
      refine lin_val (i := 0) (v := ?_) rfl (by kernel_rfl) (by kernel_rfl) (by kernel_rfl) (by kernel_rfl) (fun _ _ _ h => h) hSS hS rfl (fun W' hSw => ?_) ?_
      rotate_left
      · go_simp; first | done | with_reducible rfl
      try simp only [Act.put, List.setIfInBounds_toArray, List.set_cons_zero, List.set_cons_succ]
      refine lin_val (i := 1) (v := ?_) rfl (by kernel_rfl) (by kernel_rfl) (by kernel_rfl) (by kernel_rfl) (fun _ _ _ h => h) hSS hS rfl (fun W' hSw => ?_) ?_
      rotate_left
      · go_simp; first | done | with_reducible rfl
      try simp only [Act.put, List.setIfInBounds_toArray, List.set_cons_zero, List.set_cons_succ]
      refine lin_val (i := 2) (v := ?_) rfl (by kernel_rfl) (by kernel_rfl) (by kernel_rfl) (by kernel_rfl) (fun _ _ _ h => h) hSS hS rfl (fun W' hSw => ?_) ?_
      rotate_left
      · go_simp; first | done | with_reducible rfl
      try simp only [Act.put, List.setIfInBounds_toArray, List.set_cons_zero, List.set_cons_succ]
      refine lin_val (i := 3) (v := ?_) rfl (by kernel_rfl) (by kernel_rfl) (by kernel_rfl) (by kernel_rfl) (fun _ _ _ h => h) hSS hS rfl (fun W' hSw => ?_) ?_
      rotate_left
      · have x0 := hSw.1.1.cell 0; simp only [List.getElem?_cons_zero] at x0; go_simp; first | done | with_reducible rfl
      try simp only [Act.put, List.setIfInBounds_toArray, List.set_cons_zero, List.set_cons_succ]
      refine lin_val (i := 4) (v := ?_) rfl (by kernel_rfl) (by kernel_rfl) (by kernel_rfl) (by kernel_rfl) (fun _ _ _ h => h) hSS hS rfl (fun W' hSw => ?_) ?_
      rotate_left
      · go_simp; first | done | with_reducible rfl
      try simp only [Act.put, List.setIfInBounds_toArray, List.set_cons_zero, List.set_cons_succ]
      refine lin_val (i := 5) (v := ?_) rfl (by kernel_rfl) (by kernel_rfl) (by kernel_rfl) (by kernel_rfl) (fun _ _ _ h => h) hSS hS rfl (fun W' hSw => ?_) ?_
      rotate_left
      · have p0 := hSw.1.2.cell 0; simp only [List.getElem?_cons_zero] at p0; go_simp; first | done | with_reducible rfl
      try simp only [Act.put, List.setIfInBounds_toArray, List.set_cons_zero, List.set_cons_succ]
      refine lin_val (i := 6) (v := ?_) rfl (by kernel_rfl) (by kernel_rfl) (by kernel_rfl) (by kernel_rfl) (fun _ _ _ h => h) hSS hS rfl (fun W' hSw => ?_) ?_
      rotate_left
      · go_simp; first | done | with_reducible rfl
      try simp only [Act.put, List.setIfInBounds_toArray, List.set_cons_zero, List.set_cons_succ]
      refine lin_val (i := 7) (v := ?_) rfl (by kernel_rfl) (by kernel_rfl) (by kernel_rfl) (by kernel_rfl) (fun _ _ _ h => h) hSS hS rfl (fun W' hSw => ?_) ?_
      rotate_left
      · have q0 := hSw.2.cell 0; simp only [List.getElem?_cons_zero] at q0; go_simp; first | done | with_reducible rfl
      try simp only [Act.put, List.setIfInBounds_toArray, List.set_cons_zero, List.set_cons_succ]
      refine lin_list (i := 8) (by kernel_rfl) rfl (fun w8 k8 Q2 hQ => ?_)
      have k78 : Kp [] w7 w8 := (Kp.refl _ _).drew.nil k8
      obtain ⟨w9, hw9⟩ : ∃ w9, w9 = w8.alloc (.cells #[.int .i64 (pf : Int), .int .i64 (f : Int)] 3) := ⟨_, rfl⟩
      have k9 : Kp [] w8 w9 := by rw [hw9]; exact (Kp.refl _ _).alloc _
      have c9 : Cells w9 w8.heap.size 3 [.int .i64 (pf : Int), .int .i64 (f : Int)] := by rw [hw9]; exact Cells.fresh w8 3 _
      have H8 := hid (And.intro k78 (And.intro k9 c9))
      have HW9 := hid hw9
      obtain ⟨g8, hg8⟩ : ∃ g, g = w8.heap.size := ⟨_, rfl⟩
      have HG8 := hid hg8
      clear k8 k78 k9 c9 hw9 hg8
      go_wp2_with fail
      refine hQ.out _ _ ⟨⟨(H7C.out.1.keep H8.out.1 (by simp)).alloc _, (H7C.out.2.1.keep H8.out.1 (by simp)).alloc _⟩, (H7C.out.2.2.keep H8.out.1 (by simp)).alloc _⟩ (fun hS9 => ?_)
      clear hQ hS
      rw [← HW9.out] at hS9 ⊢
      try rw [← HG8.out]
      try simp only [Act.put, List.setIfInBounds_toArray, List.set_cons_zero, List.set_cons_succ]
      refine lin_list (i := 9) (by kernel_rfl) rfl (fun w10 k10 Q2 hQ => ?_)
      have hk810 := H8.out.2.1.nil k10
      have r8 := H7.out.1.kept H8.out.1
      have c10 := H8.out.2.2.keep k10 (by simp)
      rw [← HG8.out] at c10
      have qf := add_any w8 w10 mb E7 _ _ r8.mach (by rw [List.length_append, List.length_singleton]; exact HLN.out) hk810 r8.lt (.slice (some ⟨g8, 0, none⟩) 2 2) [pf, f] (Own.of_cells c10 (by simp [ints])) (by intro g hg; have hg : some g8 = some g := hg; injection hg with hg; have := HG8.out; omega)
      rw [show (M5 ++ [(⟨none, none, []⟩ : St)]).length = M5.length + 1 by simp] at qf
      have H10 := hid (And.intro hk810 r8)
      clear k10 hk810 r8 c10
      go_wp2_with fail
      (with_reducible refine qf.mono ?_)
      clear qf
      rintro e w11 ⟨rfl, E11, m11, g11⟩
      have r11 := H10.out.2.grew m11 g11
      have hRg : ∀ x, (R x ∨ x = gc) ∨ x = gp → ¬ E7 x := fun x hx h => H7.out.1.mach.apart _ h hx
      have cr11 := g11.kq.cells (H7C.out.1.keep H8.out.1 (by simp)) (hRg _ (.inl (.inl HH.out.1.rR)))
      have cp11 := g11.kq.cells (H7C.out.2.1.keep H8.out.1 (by simp)) (hRg _ (.inr rfl))
      have cq11 := g11.kq.cells (H7C.out.2.2.keep H8.out.1 (by simp)) H7.out.2.2.2.2.2
      have cc11 := g11.kq.cells (H7.out.2.2.2.1.keep H8.out.1 (by simp)) (hRg _ (.inl (.inr rfl)))
      have hq11 := g11.out (Nat.lt_of_lt_of_le H7.out.2.1.lt H8.out.1.size) H7.out.2.2.2.2.2
      have K11 := (H7.out.2.2.2.2.1.trans (Rew.of_kept E7 rb H8.out.1)).trans (Rew.of_grew rb g11)
      have H11 := hid (And.intro r11 (And.intro cq11 (And.intro cp11 (And.intro cc11 (And.intro K11 hq11)))))
      clear r11 m11 g11 cc11 K11 hq11 hRg
      go_wp2_with fail
      refine hQ.out _ _ ⟨⟨cr11, cp11⟩, cq11⟩ (fun hS11 => ?_)
      clear hQ cr11 cp11 cq11 hS9
      try simp only [Act.put, List.setIfInBounds_toArray, List.set_cons_zero, List.set_cons_succ]
      refine lin_last (i := 10) (by kernel_rfl) rfl (by kernel_rfl) (fun w12 k12 K hK => ?_)
      have r12 := H11.out.1.kept k12
      have H12 := hid (And.intro r12 (And.intro (H11.out.2.1.keep k12 (by simp)) (And.intro (H11.out.2.2.1.keep k12 (by simp)) (And.intro (H11.out.2.2.2.1.keep k12 (by simp)) (And.intro (H11.out.2.2.2.2.1.trans (Rew.of_kept E11 rb k12)) H11.out.2.2.2.2.2)))))
      clear k12 r12
      go_simp
      refine hK.out _ _ ?_
      clear hK K hS11 hSS
      obtain ⟨Aa, ca, hca, -, -, -, -⟩ := H12.out.1.rd.ex
      have x0 := hca.cell 0
      have p1 := H12.out.2.2.1.cell 1
      have q1 := H12.out.2.1.cell 1
      simp only [List.getElem?_cons_zero, List.getElem?_cons_succ] at x0 p1 q1
      clear hca Aa ca
      go_upto_region 8 with fail
      refine lin_start (fun W' => Kp [] w12 W') (Stays.kp _ _) (by kernel_rfl) (Kp.refl _ _).drew (fun hSS hS => ?_)
      refine lin_val (i := 0) (v := ?_) rfl (by kernel_rfl) (by kernel_rfl) (by kernel_rfl) (by kernel_rfl) (fun _ _ _ h => h) hSS hS rfl (fun W' hSw => ?_) ?_
      rotate_left
      · go_simp; first | done | with_reducible rfl
      try simp only [Act.put, List.setIfInBounds_toArray, List.set_cons_zero, List.set_cons_succ]
      refine lin_val (i := 1) (v := ?_) rfl (by kernel_rfl) (by kernel_rfl) (by kernel_rfl) (by kernel_rfl) (fun _ _ _ h => h) hSS hS rfl (fun W' hSw => ?_) ?_
      rotate_left
      · go_simp; first | done | with_reducible rfl
      try simp only [Act.put, List.setIfInBounds_toArray, List.set_cons_zero, List.set_cons_succ]
      refine lin_val (i := 2) (v := ?_) rfl (by kernel_rfl) (by kernel_rfl) (by kernel_rfl) (by kernel_rfl) (fun _ _ _ h => h) hSS hS rfl (fun W' hSw => ?_) ?_
      rotate_left
      · go_simp; first | done | with_reducible rfl
      try simp only [Act.put, List.setIfInBounds_toArray, List.set_cons_zero, List.set_cons_succ]
      refine lin_val (i := 3) (v := ?_) rfl (by kernel_rfl) (by kernel_rfl) (by kernel_rfl) (by kernel_rfl) (fun _ _ _ h => h) hSS hS rfl (fun W' hSw => ?_) ?_
      rotate_left
      · have x0 := hSw.cell x0 (by simp); go_simp; first | done | with_reducible rfl
      try simp only [Act.put, List.setIfInBounds_toArray, List.set_cons_zero, List.set_cons_succ]
      refine lin_val (i := 4) (v := ?_) rfl (by kernel_rfl) (by kernel_rfl) (by kernel_rfl) (by kernel_rfl) (fun _ _ _ h => h) hSS hS rfl (fun W' hSw => ?_) ?_
      rotate_left
      · go_simp; first | done | with_reducible rfl
      try simp only [Act.put, List.setIfInBounds_toArray, List.set_cons_zero, List.set_cons_succ]
      refine lin_val (i := 5) (v := ?_) rfl (by kernel_rfl) (by kernel_rfl) (by kernel_rfl) (by kernel_rfl) (fun _ _ _ h => h) hSS hS rfl (fun W' hSw => ?_) ?_
      rotate_left
      · have p1 := hSw.cell p1 (by simp); go_simp; first | done | with_reducible rfl
      try simp only [Act.put, List.setIfInBounds_toArray, List.set_cons_zero, List.set_cons_succ]
      refine lin_val (i := 6) (v := ?_) rfl (by kernel_rfl) (by kernel_rfl) (by kernel_rfl) (by kernel_rfl) (fun _ _ _ h => h) hSS hS rfl (fun W' hSw => ?_) ?_
      rotate_left
      · go_simp; first | done | with_reducible rfl
      try simp only [Act.put, List.setIfInBounds_toArray, List.set_cons_zero, List.set_cons_succ]
      refine lin_listLast (i := 7) (by kernel_rfl) rfl (by kernel_rfl) (fun wz kz Q2 hQ => ?_)
      have kz' : Kp [] w12 wz := (Kp.refl _ _).drew.nil kz
      have rz := H12.out.1.kept kz'
      have qt := toM_any wz mb E11 _ ((M5 ++ [⟨none, none, []⟩]) ++ [⟨none, none, [pf, f]⟩]) rz.mach (by rw [wt_append, wt_append]; have := HG.out.2.2.1; show wt M5 + 1 + 3 ≤ 1000000; omega) rz.lt pl M5.length (by rw [List.length_append, List.length_append]; have := HG.out.2.2.2.2; omega)
      have HZ := hid (And.intro rz kz')
      clear kz kz' rz hS hSS x0 p1 q1
      go_wp2_with fail
      (with_reducible refine qt.mono ?_)
      clear qt
      rintro e w13 ⟨rfl, E13, mz, gz⟩
      have hRg : ∀ x, (R x ∨ x = gc) ∨ x = gp → ¬ E11 x := fun x hx h => H12.out.1.mach.apart _ h hx
      have H13 := hid (And.intro (HZ.out.1.grew mz gz) (And.intro (gz.kq.cells (H12.out.2.1.keep HZ.out.2 (by simp)) H12.out.2.2.2.2.2) (And.intro (gz.kq.cells (H12.out.2.2.1.keep HZ.out.2 (by simp)) (hRg _ (.inr rfl))) (And.intro (gz.kq.cells (H12.out.2.2.2.1.keep HZ.out.2 (by simp)) (hRg _ (.inl (.inr rfl)))) (And.intro ((H12.out.2.2.2.2.1.trans (Rew.of_kept E11 rb HZ.out.2)).trans (Rew.of_grew rb gz)) (gz.out (Nat.lt_of_lt_of_le H12.out.2.1.lt HZ.out.2.size) H12.out.2.2.2.2.2))))))
      clear mz gz hRg HZ
      go_wp2_with fail
      refine hQ.out _ _ ?_
      clear hQ
      obtain ⟨Aa, ca, hca, -, -, -, -⟩ := H13.out.1.rd.ex
      have x0 := hca.cell 0
      have p1 := H13.out.2.2.1.cell 1
      have q1 := H13.out.2.1.cell 1
      simp only [List.getElem?_cons_zero, List.getElem?_cons_succ] at x0 p1 q1
      clear hca Aa ca
      go_upto_region 9 with fail
      refine lin_start (fun W' => Kp [] w13 W') (Stays.kp _ _) (by kernel_rfl) (Kp.refl _ _).drew (fun hSS hS => ?_)
      refine lin_val (i := 0) (v := ?_) rfl (by kernel_rfl) (by kernel_rfl) (by kernel_rfl) (by kernel_rfl) (fun _ _ _ h => h) hSS hS rfl (fun W' hSw => ?_) ?_
      rotate_left
      · go_simp; first | done | with_reducible rfl
      try simp only [Act.put, List.setIfInBounds_toArray, List.set_cons_zero, List.set_cons_succ]
      refine lin_val (i := 1) (v := ?_) rfl (by kernel_rfl) (by kernel_rfl) (by kernel_rfl) (by kernel_rfl) (fun _ _ _ h => h) hSS hS rfl (fun W' hSw => ?_) ?_
      rotate_left
      · go_simp; first | done | with_reducible rfl
      try simp only [Act.put, List.setIfInBounds_toArray, List.set_cons_zero, List.set_cons_succ]
      refine lin_val (i := 2) (v := ?_) rfl (by kernel_rfl) (by kernel_rfl) (by kernel_rfl) (by kernel_rfl) (fun _ _ _ h => h) hSS hS rfl (fun W' hSw => ?_) ?_
      rotate_left
      · go_simp; first | done | with_reducible rfl
      try simp only [Act.put, List.setIfInBounds_toArray, List.set_cons_zero, List.set_cons_succ]
      refine lin_val (i := 3) (v := ?_) rfl (by kernel_rfl) (by kernel_rfl) (by kernel_rfl) (by kernel_rfl) (fun _ _ _ h => h) hSS hS rfl (fun W' hSw => ?_) ?_
      rotate_left
      · have x0 := hSw.cell x0 (by simp); go_simp; first | done | with_reducible rfl
      try simp only [Act.put, List.setIfInBounds_toArray, List.set_cons_zero, List.set_cons_succ]
      refine lin_val (i := 4) (v := ?_) rfl (by kernel_rfl) (by kernel_rfl) (by kernel_rfl) (by kernel_rfl) (fun _ _ _ h => h) hSS hS rfl (fun W' hSw => ?_) ?_
      rotate_left
      · go_simp; first | done | with_reducible rfl
      try simp only [Act.put, List.setIfInBounds_toArray, List.set_cons_zero, List.set_cons_succ]
      refine lin_val (i := 5) (v := ?_) rfl (by kernel_rfl) (by kernel_rfl) (by kernel_rfl) (by kernel_rfl) (fun _ _ _ h => h) hSS hS rfl (fun W' hSw => ?_) ?_
      rotate_left
      · have q1 := hSw.cell q1 (by simp); go_simp; first | done | with_reducible rfl
      try simp only [Act.put, List.setIfInBounds_toArray, List.set_cons_zero, List.set_cons_succ]
      refine lin_val (i := 6) (v := ?_) rfl (by kernel_rfl) (by kernel_rfl) (by kernel_rfl) (by kernel_rfl) (fun _ _ _ h => h) hSS hS rfl (fun W' hSw => ?_) ?_
      rotate_left
      · go_simp; first | done | with_reducible rfl
      try simp only [Act.put, List.setIfInBounds_toArray, List.set_cons_zero, List.set_cons_succ]
      refine lin_listLast (i := 7) (by kernel_rfl) rfl (by kernel_rfl) (fun wz kz Q2 hQ => ?_)
      have kz' : Kp [] w13 wz := (Kp.refl _ _).drew.nil kz
      have rz := H13.out.1.kept kz'
      have qt := toM_any wz mb E13 _ (goTo ((M5 ++ [⟨none, none, []⟩]) ++ [⟨none, none, [pf, f]⟩]) pl M5.length) rz.mach (by refine Nat.le_trans (goTo_wt _ _ _) ?_; rw [wt_append, wt_append]; have := HG.out.2.2.1; show wt M5 + 1 + 3 + 1 ≤ 1000000; omega) rz.lt l M5.length (by rw [goTo_len, List.length_append, List.length_append]; have := HG.out.2.2.2.1; omega)
      have HZ := hid (And.intro rz kz')
      clear kz kz' rz hS hSS x0 p1 q1
      go_wp2_with fail
      (with_reducible refine qt.mono ?_)
      clear qt
      rintro e w14 ⟨rfl, E14, mz, gz⟩
      have hRg : ∀ x, (R x ∨ x = gc) ∨ x = gp → ¬ E13 x := fun x hx h => H13.out.1.mach.apart _ h hx
      have H14 := hid (And.intro (HZ.out.1.grew mz gz) (And.intro (gz.kq.cells (H13.out.2.1.keep HZ.out.2 (by simp)) H13.out.2.2.2.2.2) (And.intro (gz.kq.cells (H13.out.2.2.1.keep HZ.out.2 (by simp)) (hRg _ (.inr rfl))) (And.intro (gz.kq.cells (H13.out.2.2.2.1.keep HZ.out.2 (by simp)) (hRg _ (.inl (.inr rfl)))) (And.intro ((H13.out.2.2.2.2.1.trans (Rew.of_kept E13 rb HZ.out.2)).trans (Rew.of_grew rb gz)) (gz.out (Nat.lt_of_lt_of_le H13.out.2.1.lt HZ.out.2.size) H13.out.2.2.2.2.2))))))
      clear mz gz hRg HZ
      go_wp2_with fail
      refine hQ.out _ _ ?_
      clear hQ
      obtain ⟨w15, hw15⟩ : ∃ w15, w15 = (w14.setCell ⟨gp, 0, none⟩ (.int .i64 ((M5.length : Int) + 1))).setCell ⟨gp, 1, none⟩ (.int .i64 (M5.length : Int)) := ⟨_, rfl⟩
      have k15 : Kp [gp] w14 w15 := by rw [hw15]; exact ((Kp.refl _ _).setCell (fun _ => by simp) _).setCell (fun _ => by simp) _
      have r15 := H14.out.1.wrote k15 (.inr rfl) HP.out.2.2.1 HP.out.2.2.2.1
      have cp15 : Cells w15 gp 50 [.int .i64 ((M5.length : Int) + 1), .int .i64 (M5.length : Int)] := by rw [hw15]; exact (H14.out.2.2.1.put 0 _).put 1 _
      have cc15 := H14.out.2.2.2.1.keep k15 (by simpa using HP.out.1)
      have K15 := H14.out.2.2.2.2.1.fresh k15 HP.out.2.2.2.2
      have H15 := hid (And.intro r15 (And.intro K15 (And.intro cc15 cp15)))
      have HW15 := hid hw15
      have p0 := H14.out.2.2.1.cell 0
      have p1 := H14.out.2.2.1.cell 1
      have u0 := H14.out.2.2.1.free 0
      have u1 := H14.out.2.2.1.free 1
      simp only [List.getElem?_cons_zero, List.getElem?_cons_succ] at p0 p1
      clear hw15 k15 r15 cp15 cc15 K15
      go_wp2_with fail
      rw [← HW15.out]
      clear HW15
      go_roundg (gk - 1)
      case measure => have := HMS.out; simp only [Bool.false_eq_true, if_false] at this; omega
      case rel =>
        refine ⟨_, L5, d5, bad5, M5.length + 1, M5.length, E14, H15.out.1, H15.out.2.1, H15.out.2.2.1, H15.out.2.2.2, HG.out.1, ?_⟩
        have := HMS.out
        have := HG.out.2.1
        simp only [Bool.false_eq_true, if_false] at *
        split <;> omega
/-- A text is read as an alt: what it means, and what is left; or it is none, and the reader is marked. -/
theorem alt_all : ∀ n : Nat, AltC n
  | 0 => fun _ _ _ _ _ _ _ _ _ hn => absurd hn (Nat.not_lt_zero _)
  | n + 1 => alt_of n (seq_of n (atom_of n (alt_all n)))
end Go.Proofs.Ytaaikjedagnjbaa

