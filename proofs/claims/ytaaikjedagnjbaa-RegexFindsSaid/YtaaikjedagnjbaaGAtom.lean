/- The reader's atom, if alt does what it should for shorter texts. -/
import Derived.Test.YtaaikjedagnjbaaRD
namespace Go.Proofs.Ytaaikjedagnjbaa
open Go Go.RowKit Go.Lib

/-- What alt does for a text of fewer than n runes. -/
def AltC (n : Nat) : Prop := ∀ (w : World) (rb mb : Nat) (N E R : Nat → Prop) (M : List St) (L : List Nat) (d : Nat), L.length < n → Ready w rb mb N E R M L d false → wt M + 16 * L.length ≤ 800000 → d ≤ 6 → L.length ≤ 1000 →
  Calls Try.prog 34 #[.pointer (some ⟨rb, 0, none⟩)] w fun e w' => Got w rb mb N E R M L d 0 1 (altR d L) e w'
/-- What atom does. -/
def AtomC (n : Nat) : Prop := ∀ (w : World) (rb mb : Nat) (N E R : Nat → Prop) (M : List St) (c : Nat) (L : List Nat) (d : Nat), L.length < n → Ready w rb mb N E R M (c :: L) d false → 0 < M.length → wt M + 16 * L.length ≤ 800000 → d ≤ 6 → L.length ≤ 1000 →
  Calls Try.prog 50 #[.pointer (some ⟨rb, 0, none⟩)] w fun e w' => Got w rb mb N E R M (c :: L) d 13 0 (atomR d (c :: L)) e w'
/-- A bracket behind. -/
def closeR (p : Re × List Nat) : Option (Re × List Nat) := match p.2 with | [] => none | e :: l3 => if e = 41 then some (p.1, l3) else none
theorem Got.atom {w w' : World} {rb mb d : Nat} {N E R : Nat → Prop} {M : List St} {L : List Nat} {res : Option (Re × List Nat)} {e : Ending} (c : Nat) (h : Got w rb mb N E R M L d 0 3 res e w') : Got w rb mb N E R M (c :: L) d 13 0 res e w' := by
  obtain ⟨f, l, E5, M5, L5, d5, bad5, rfl, r5, K5, g1, g2, g3, g4, g5, g6, g7, g8, g9, g10⟩ := h.ex
  exact ⟨f, l, E5, M5, L5, d5, bad5, rfl, r5, K5, g1, g2, g3, g4, by simp only [List.length_cons]; omega, by simp only [List.length_cons]; omega, g7, g8, g9, g10⟩
theorem RdAt.depth {w : World} {rb mb d : Nat} {N : Nat → Prop} {L : List Nat} {bad : Bool} (h : RdAt w rb mb N L d bad) (d' : Nat) : RdAt (w.setCell ⟨rb, 2, none⟩ (.int .i64 (d' : Int))) rb mb N L d' bad := by
  obtain ⟨A, c, hc, hs, h1, h2, h3⟩ := h.ex
  exact ⟨A, c, hc.put 2 _, hs.setCell (fun ad e => (h3 ad e).2) _, h1, h2, h3⟩
set_option maxRecDepth 100000 in
set_option maxHeartbeats 12800000 in
theorem atom_of (n : Nat) (hA : AltC n) : AtomC n := by
  intro w rb mb N E R M c L d hn h hM0 hwt hd hL
  have hM : M.length ≤ 900000 := Nat.le_trans (wt_len M) (by omega)
  obtain ⟨gc, hgc⟩ : ∃ g, g = w.heap.size := ⟨_, rfl⟩
  obtain ⟨w0, hw0⟩ : ∃ w0, w0 = w.alloc (.cells #[.int .i64 0, .int .i64 0] 50) := ⟨_, rfl⟩
  have k0 : Kp [] w w0 := by rw [hw0]; exact (Kp.refl _ _).alloc _
  have c0 : Cells w0 gc 50 [.int .i64 0, .int .i64 0] := by rw [hw0, hgc]; exact Cells.fresh w 50 _
  have h0 : Ready w0 rb mb N E (fun x => R x ∨ x = gc) M (c :: L) d false := h.move k0 (fun x hx => by
    rcases hx with hx | hx
    · exact .inl hx
    · exact .inr ⟨by omega, by rw [hx]; exact c0.lt⟩) (.inl h.rR)
  have hgE : ¬ E gc := h.fresh (by omega)
  have hgr : gc ≠ rb := fun e => absurd (h.lt rb h.rR) (by omega)
  have hgN : ¬ N gc := fun e => absurd (h.nE gc e).2 (by omega)
  obtain ⟨A, cc, hc, hs, h1, h2, h3⟩ := h0.rd.ex
  obtain ⟨m, hm⟩ : ∃ m, m = (c :: L).length := ⟨_, rfl⟩
  have hm1 : m = L.length + 1 := by rw [hm]; rfl
  rw [← hm] at hc h1
  obtain ⟨ad, rfl, y0⟩ := hs 0 (.int .i32 (c : Int)) rfl
  have ea : ad.add 0 = ad := by simp [Addr.add]
  rw [ea] at y0
  have x1 := hc.cell 1
  have f1 := hc.free 1
  simp only [List.getElem?_cons_zero, List.getElem?_cons_succ] at x1
  obtain ⟨w1, hw1⟩ : ∃ w1, w1 = w0.setCell ⟨rb, 1, none⟩ (.slice (cutA (some ad) 1 cc 1) (m - 1) (cc - 1)) := ⟨_, rfl⟩
  have k1 : Kp [rb] w0 w1 := by rw [hw1]; exact (Kp.refl _ _).setCell (fun _ => by simp) _
  have rd1 : RdAt w1 rb mb N L d false := by rw [hw1]; exact RdAt.cut 1 hc hs hm h1 h2 h3 (by omega)
  have r1 := h0.read k1 rd1
  have p1 := c0.keep k1 (by simpa using hgr)
  have K1 := (Rew.of_kept E rb k0).trans (Rew.of_kp E rb k1)
  obtain ⟨A4, c4, hc4, -, -, -, -⟩ := rd1.ex
  have z0 := hc4.cell 0
  have z2 := hc4.cell 2
  have z3 := hc4.cell 3
  have v2 := hc4.free 2
  have v3 := hc4.free 3
  simp only [List.getElem?_cons_zero, List.getElem?_cons_succ] at z0 z2 z3
  have b0 : (1 : Int) ≤ (m : Int) := by omega
  have b1 : decide ((1 : Int) ≤ (m : Int)) = true := decide_eq_true b0
  have b2 : 1 ≤ m := by omega
  have b3 : cc ≤ 9223372036854775807 := by omega
  have b4 : (0 : Int) < (m : Int) := by omega
  have b5 : decide ((0 : Int) < (m : Int)) = true := decide_eq_true b4
  have HH := hid (And.intro h (And.intro hM (And.intro hgE (And.intro hgr (And.intro hgN (Nat.le_of_eq hgc.symm))))))
  have HP := hid (And.intro hwt (And.intro hL hd))
  have HN := hid (And.intro hn hM0)
  have H1 := hid (And.intro r1 (And.intro p1 K1))
  have HW0 := hid hw0
  have HW1 := hid hw1
  have HGC := hid hgc
  have HA := hid hA
  clear h h0 c0 hw0 hw1 hgc k0 hgE hgr hgN hc hs h1 h2 h3 hm hm1 ea k1 rd1 r1 p1 K1 hc4 A4 c4 hM hM0 hwt hL hd hn hA
  go_enter Try.func50, Try.ntmps50
  go_upto_region 1 with fail
  rw [← HW0.out]
  try rw [← HGC.out]
  clear HW0 HGC
  go_upto_region 3 with fail
  rw [← HW1.out]
  clear HW1 x1 f1 b0 b1 b2 b3 b4 b5 y0
  by_cases h40 : c = 40
  · subst h40
    have HAT : Hid (atomR d (40 :: L) = if 6 ≤ d then none else (altR (d + 1) L).bind closeR) := hid ((atom_cons d 40 L).trans (if_pos rfl))
    simp only [show ((40 : Nat) : Int) = 40 from rfl]
    have iw : IntKind.i64.wrap ((d : Int) + 1) = (d : Int) + 1 := IntWalk.i64_in _ (by have := HP.out.2.2; omega)
    obtain ⟨w2, hw2⟩ : ∃ w2, w2 = w1.setCell ⟨rb, 2, none⟩ (.int .i64 ((d : Int) + 1)) := ⟨_, rfl⟩
    have k2 : Kp [rb] w1 w2 := by rw [hw2]; exact (Kp.refl _ _).setCell (fun _ => by simp) _
    have rd2 : RdAt w2 rb mb N L (d + 1) false := by rw [hw2]; exact H1.out.1.rd.depth (d + 1)
    have r2 := H1.out.1.read k2 rd2
    have p2 := H1.out.2.1.keep k2 (by simpa using HH.out.2.2.2.1)
    have K2 := H1.out.2.2.trans (Rew.of_kp E rb k2)
    obtain ⟨A2, c2, hc2, -, -, -, -⟩ := rd2.ex
    have H2 := hid (And.intro r2 (And.intro p2 K2))
    have HW2 := hid hw2
    have y2 := hc2.cell 2
    have y3 := hc2.cell 3
    have u3 := hc2.free 3
    simp only [List.getElem?_cons_zero, List.getElem?_cons_succ] at y2 y3
    replace y2 : w2.cell? ⟨rb, 2, none⟩ = some (.int .i64 ((d : Int) + 1)) := y2
    clear hw2 k2 rd2 r2 p2 K2 hc2 A2 c2
    go_upto_region 6 with fail
    rw [← HW2.out]
    clear HW2 z2 z3 v2 v3 z0
    obtain ⟨bg, hbg⟩ : ∃ b, b = decide (6 ≤ d) := ⟨_, rfl⟩
    have g1 : decide ((6 : Int) < (d : Int) + 1) = bg := by rw [hbg]; exact decide_eq_decide.2 (by omega)
    obtain ⟨w3, hw3⟩ : ∃ w3, w3 = w2.setCell ⟨rb, 3, none⟩ (.bool bg) := ⟨_, rfl⟩
    have k3 : Kp [rb] w2 w3 := by rw [hw3]; exact (Kp.refl _ _).setCell (fun _ => by simp) _
    have rd3 : RdAt w3 rb mb N L (d + 1) bg := by rw [hw3]; exact H2.out.1.rd.mark _
    have r3 := H2.out.1.read k3 rd3
    have p3 := H2.out.2.1.keep k3 (by simpa using HH.out.2.2.2.1)
    have K3 := H2.out.2.2.trans (Rew.of_kp E rb k3)
    obtain ⟨A3, c3, hc3, -, -, -, -⟩ := rd3.ex
    have x3 := hc3.cell 3
    simp only [List.getElem?_cons_zero, List.getElem?_cons_succ] at x3
    have H5 := hid (And.intro r3 (And.intro p3 K3))
    have HBG := hid hbg
    have HW3 := hid hw3
    clear hw3 k3 rd3 r3 p3 K3 hc3 A3 c3 hbg
    go_upto_region 7 with fail
    rw [← HW3.out]
    clear HW3 y2 y3 u3 g1 iw
    cases bg with
    | true =>
      obtain ⟨w6, hw6, r6, K6, c6⟩ := Ready.result H5.out.1 HH.out.1.rR HH.out.2.2.2.1 HH.out.2.2.2.2.1 HH.out.2.2.2.2.2 H5.out.2.2 H5.out.2.1 (.int .i64 0) (.int .i64 0)
      have HE := hid (And.intro r6 (And.intro K6 c6))
      have HY := hid hw6
      have y0 := Cells.cell H5.out.2.1 0
      have y1 := Cells.cell H5.out.2.1 1
      have f0 := Cells.free H5.out.2.1 0
      have f1 := Cells.free H5.out.2.1 1
      simp only [List.getElem?_cons_zero, List.getElem?_cons_succ] at y0 y1
      clear r6 K6 c6 hw6 
      go_wp2_with fail
      rw [← HY.out]
      refine bodyPost_ret (results_cell_row rfl _ _ gc 50 _ _ _ rfl HE.out.2.2 Try.underlying50 rfl (by kernel_rfl)) rfl ?_
      have h6 : 6 ≤ d := of_decide_eq_true HBG.out.symm
      rw [HAT.out, if_pos h6]
      refine ⟨0, 0, E, M, L, d + 1, true, rfl, HE.out.1, HE.out.2.1, fun _ _ _ => rfl, Nat.le_refl _, HN.out.2, HN.out.2, by simp only [List.length_cons]; omega, by simp, by omega, by have := HP.out.2.2; omega, rfl, fun re r e => by cases e⟩
    | false =>
      have h6 : ¬ 6 ≤ d := of_decide_eq_false HBG.out.symm
      have qa := HA.out w3 rb mb N E _ M L (d + 1) HN.out.1 H5.out.1 HP.out.1 (by omega) HP.out.2.1
      have H6 := hid h6
      clear h6 HBG
      go_wp2_with fail
      (with_reducible refine qa.mono ?_)
      clear qa x3
      rintro e w5 hg
      obtain ⟨f, l, E5, M5, L5, d5, bad5, rfl, r5, K5, g1, g2, g3, g4, g5, g6, g7, g8, g9, g10⟩ := hg.ex
      clear hg
      have p5 := K5.cells H5.out.2.1 HH.out.2.2.1 HH.out.2.2.2.1
      have K5' := H5.out.2.2.trans K5
      obtain ⟨gp, hgp⟩ : ∃ g, g = w5.heap.size := ⟨_, rfl⟩
      obtain ⟨w6, hw6⟩ : ∃ w6, w6 = w5.alloc (.cells #[.int .i64 (f : Int), .int .i64 (l : Int)] 50) := ⟨_, rfl⟩
      have k6 : Kp [] w5 w6 := by rw [hw6]; exact (Kp.refl _ _).alloc _
      have c6 : Cells w6 gp 50 [.int .i64 (f : Int), .int .i64 (l : Int)] := by rw [hw6, hgp]; exact Cells.fresh w5 50 _
      have r6 := r5.kept k6
      have q7 := next_any w6 rb mb N L5 d5 bad5 r6.rd ⟨#[41]⟩ (ascii_of _ (by decide)) (by decide)
      obtain ⟨ok, hok⟩ : ∃ b, b = hits (⟨#[41]⟩ : ByteArray).data.toList bad5 L5 := ⟨_, rfl⟩
      rw [← hok] at q7
      obtain ⟨pr, hpr⟩ : ∃ p, p = peekR bad5 L5 := ⟨_, rfl⟩
      rw [← hpr] at q7
      have HG := hid (And.intro g1 (And.intro g2 (And.intro g3 (And.intro g4 (And.intro g5 (And.intro g6 (And.intro g7 (And.intro g8 (And.intro g9 (And.intro g10 hok))))))))))
      have HS6 := hid (And.intro r6 (And.intro (p5.keep k6 (by simp)) (And.intro (K5'.trans (Rew.of_kept E5 rb k6)) (And.intro c6 (show gp ≠ rb from fun e => absurd (r5.lt rb (.inl HH.out.1.rR)) (by omega))))))
      have HW6 := hid hw6
      have HGP := hid hgp
      clear r5 K5 g1 g2 g3 g4 g5 g6 g7 g8 g9 g10 p5 K5' hgp hw6 k6 c6 r6 hok hpr
      unfold partV
      go_upto_region 10 with fail
      rw [← HW6.out]
      try rw [← HGP.out]
      clear HW6 HGP
      go_wp2_with fail
      (with_reducible refine q7.mono ?_)
      clear q7
      rintro e w7 ⟨rfl, rd7, k7⟩
      have r7 := HS6.out.1.read k7 rd7
      have p7 := HS6.out.2.1.keep k7 (by simpa using HH.out.2.2.2.1)
      have K7 := HS6.out.2.2.1.trans (Rew.of_kp E5 rb k7)
      have c7 := HS6.out.2.2.2.1.keep k7 (by simpa using HS6.out.2.2.2.2)
      obtain ⟨A7, cc7, hc7, -, -, -, -⟩ := rd7.ex
      have x3 := hc7.cell 3
      have f3 := hc7.free 3
      simp only [List.getElem?_cons_zero, List.getElem?_cons_succ] at x3
      have H7 := hid (And.intro r7 (And.intro p7 (And.intro K7 c7)))
      clear r7 p7 K7 c7 rd7 k7 hc7 A7 cc7
      go_upto_region 11 with fail
      go_cut [] (fun wx => wx = w7.setCell ⟨rb, 3, none⟩ (.bool (bad5 || !ok)))
      case first =>
        cases bad5 with
        | true =>
          go_wp2_with fail
          go_meet
          rfl
        | false =>
          cases ok with
          | true =>
            go_wp2_with fail
            go_meet
            rfl
          | false =>
            go_wp2_with fail
            go_meet
            rfl
      case rest =>
        have k8 : Kp [rb] w7 wc := by rw [hcut]; exact (Kp.refl _ _).setCell (fun _ => by simp) _
        have rd8 : RdAt wc rb mb N (if ok then L5.tail else L5) d5 (bad5 || !ok) := by rw [hcut]; exact H7.out.1.rd.mark _
        obtain ⟨d6, hd6⟩ : ∃ d6, d5 = d6 + 1 := ⟨d5 - 1, by have := HG.out.2.2.2.2.2.2.1; omega⟩
        have iw : IntKind.i64.wrap ((d5 : Int) - 1) = (d6 : Int) := by rw [IntWalk.i64_in _ (by have := HG.out.2.2.2.2.2.2.2.1; omega)]; omega
        obtain ⟨w9, hw9⟩ : ∃ w9, w9 = wc.setCell ⟨rb, 2, none⟩ (.int .i64 (d6 : Int)) := ⟨_, rfl⟩
        have k9 : Kp [rb] wc w9 := by rw [hw9]; exact (Kp.refl _ _).setCell (fun _ => by simp) _
        have k79 : Kp [rb] w7 w9 := k8.trans k9 (fun x hx _ => hx)
        have rd9 : RdAt w9 rb mb N (if ok then L5.tail else L5) d6 (bad5 || !ok) := by rw [hw9]; exact rd8.depth d6
        have r9 := H7.out.1.read k79 rd9
        have p9 := H7.out.2.1.keep k79 (by simpa using HH.out.2.2.2.1)
        have K9 := H7.out.2.2.1.trans (Rew.of_kp E5 rb k79)
        have c9 := H7.out.2.2.2.keep k79 (by simpa using HS6.out.2.2.2.2)
        obtain ⟨A8, cc8, hc8, -, -, -, -⟩ := rd8.ex
        have x2 := hc8.cell 2
        have f2 := hc8.free 2
        have s0 := c9.cell 0
        have s1 := c9.cell 1
        simp only [List.getElem?_cons_zero, List.getElem?_cons_succ] at x2 s0 s1
        have H5 := hid (And.intro r9 (And.intro p9 K9))
        have HD6 := hid hd6
        have HW9 := hid hw9
        clear k8 rd8 hd6 hw9 k9 k79 rd9 r9 p9 K9 c9 hc8 A8 cc8 hcut x3 f3
        go_upto_region 13 with fail
        rw [← HW9.out]
        clear HW9 x2 f2 iw
        obtain ⟨w6, hw6, r6, K6, c6⟩ := Ready.result H5.out.1 HH.out.1.rR HH.out.2.2.2.1 HH.out.2.2.2.2.1 HH.out.2.2.2.2.2 H5.out.2.2 H5.out.2.1 (.int .i64 (f : Int)) (.int .i64 (l : Int))
        have HE := hid (And.intro r6 (And.intro K6 c6))
        have HY := hid hw6
        have y0 := Cells.cell H5.out.2.1 0
        have y1 := Cells.cell H5.out.2.1 1
        have f0 := Cells.free H5.out.2.1 0
        have f1 := Cells.free H5.out.2.1 1
        simp only [List.getElem?_cons_zero, List.getElem?_cons_succ] at y0 y1
        clear r6 K6 c6 hw6 
        go_wp2_with fail
        rw [← HY.out]
        refine bodyPost_ret (results_cell_row rfl _ _ gc 50 _ _ _ rfl HE.out.2.2 Try.underlying50 rfl (by kernel_rfl)) rfl ?_
        obtain ⟨g1, g2, g3, g4, g5, g6, g7, g8, g9, g10, hok⟩ := HG.out
        have hd6 := HD6.out
        have hL7 : (if ok then L5.tail else L5).length ≤ L5.length := by split <;> simp
        rw [HAT.out, if_neg H6.out]
        have hbad : (bad5 || !ok) = ((altR (d + 1) L).bind closeR).isNone ∧ ∀ re r, ((altR (d + 1) L).bind closeR) = some (re, r) → d6 = d ∧ (if ok then L5.tail else L5) = r ∧ Frag M5 M.length M5.length f l re := by
          cases ha : altR (d + 1) L with
          | none =>
            rw [ha] at g9
            have g9 : bad5 = true := g9
            rw [g9]
            exact ⟨rfl, fun re r e => by cases e⟩
          | some p =>
            obtain ⟨re, r⟩ := p
            rw [ha] at g9
            have g9 : bad5 = false := g9
            obtain ⟨h1, h2, h3⟩ := g10 re r ha
            rw [g9, h2] at hok
            rw [g9, h2]
            cases r with
            | nil =>
              have hok : ok = false := hok
              rw [hok]
              exact ⟨rfl, fun re r e => by cases e⟩
            | cons a r2 =>
              have hok : ok = (!false && ([41] : List UInt8).any fun b => b.toNat == a) := hok
              by_cases ha41 : a = 41
              · subst ha41
                have hok : ok = true := hok
                rw [hok]
                refine ⟨rfl, fun re' r' e => ?_⟩
                simp [closeR] at e
                rw [← e.1]
                exact ⟨by omega, by simp [e.2], h3⟩
              · have hok : ok = false := by rw [hok]; simp; omega
                rw [hok]
                refine ⟨by simp [ha41, closeR], fun re' r' e => ?_⟩
                simp [ha41, closeR] at e
        refine ⟨f, l, E5, M5, _, d6, _, rfl, HE.out.1, HE.out.2.1, (fun hb => g1 (by cases bad5; rfl; cases hb)), g2, g3, g4, by simp only [List.length_cons]; omega, by simp only [List.length_cons]; omega, by omega, by omega, hbad.1, hbad.2⟩
  by_cases h91 : c = 91
  · subst h91
    have HAT : Hid (atomR d (91 :: L) = brackR L) := hid (by rw [atom_cons]; simp)
    simp only [show ((91 : Nat) : Int) = 91 from rfl]
    have q5 := items_any w1 rb mb N E _ M L d H1.out.1 HH.out.2.1 (Nat.le_succ_of_le HP.out.2.2) HP.out.2.1
    clear z0 z2 z3 v2 v3
    go_wp2_with fail
    (with_reducible refine q5.mono ?_)
    clear q5
    rintro e w5 hg
    obtain ⟨f, l, E5, M5, L5, d5, bad5, rfl, r5, K5, g1, g2, g3, g4, g5, g6, g7, g8, g9, g10⟩ := hg.ex
    clear hg
    have p5 := K5.cells H1.out.2.1 HH.out.2.2.1 HH.out.2.2.2.1
    have HG := hid (And.intro g1 (And.intro g2 (And.intro g3 (And.intro g4 (And.intro g5 (And.intro g6 (And.intro g7 (And.intro g8 (And.intro g9 g10)))))))))
    have H5 := hid (And.intro r5 (And.intro p5 (H1.out.2.2.trans K5)))
    clear r5 p5 K5 g1 g2 g3 g4 g5 g6 g7 g8 g9 g10
    unfold partV
    obtain ⟨w6, hw6, r6, K6, c6⟩ := Ready.result H5.out.1 HH.out.1.rR HH.out.2.2.2.1 HH.out.2.2.2.2.1 HH.out.2.2.2.2.2 H5.out.2.2 H5.out.2.1 (.int .i64 (f : Int)) (.int .i64 (l : Int))
    have HE := hid (And.intro r6 (And.intro K6 c6))
    have HY := hid hw6
    have y0 := Cells.cell H5.out.2.1 0
    have y1 := Cells.cell H5.out.2.1 1
    have f0 := Cells.free H5.out.2.1 0
    have f1 := Cells.free H5.out.2.1 1
    simp only [List.getElem?_cons_zero, List.getElem?_cons_succ] at y0 y1
    clear r6 K6 c6 hw6 
    go_wp2_with fail
    rw [← HY.out]
    refine bodyPost_ret (results_cell_row rfl _ _ gc 50 _ _ _ rfl HE.out.2.2 Try.underlying50 rfl (by kernel_rfl)) rfl ?_
    refine Got.atom _ ?_
    obtain ⟨g1, g2, g3, g4, g5, g6, g7, g8, g9, g10⟩ := HG.out
    rw [HAT.out]
    exact ⟨f, l, E5, M5, L5, d5, bad5, rfl, HE.out.1, HE.out.2.1, g1, g2, g3, g4, g5, g6, g7, g8, g9, g10⟩
  by_cases h46 : c = 46
  · subst h46
    have HAT : Hid (atomR d (46 :: L) = some (.cls fun x => decide (x ≠ 10), L)) := hid (by rw [atom_cons]; simp)
    simp only [show ((46 : Nat) : Int) = 46 from rfl]
    have q5 := mrune_any w1 mb E _ M H1.out.1.mach HH.out.2.1 H1.out.1.lt _ _ (dot_fn w1 _)
    clear z2 z3 v2 v3
    go_wp2_with fail
    (with_reducible refine q5.mono ?_)
    clear q5 z0
    rintro e w5 ⟨rfl, E1, m5, g5⟩
    have r5 := H1.out.1.grew m5 g5
    have p5 := g5.kq.cells H1.out.2.1 HH.out.2.2.1
    have K5 := H1.out.2.2.trans (Rew.of_grew rb g5)
    have H5 := hid (And.intro r5 (And.intro p5 K5))
    clear r5 p5 K5 m5 g5
    obtain ⟨w6, hw6, r6, K6, c6⟩ := Ready.result H5.out.1 HH.out.1.rR HH.out.2.2.2.1 HH.out.2.2.2.2.1 HH.out.2.2.2.2.2 H5.out.2.2 H5.out.2.1 (.int .i64 ((M.length : Int) + 1)) (.int .i64 (M.length : Int))
    have HE := hid (And.intro r6 (And.intro K6 c6))
    have HY := hid hw6
    have y0 := Cells.cell H5.out.2.1 0
    have y1 := Cells.cell H5.out.2.1 1
    have f0 := Cells.free H5.out.2.1 0
    have f1 := Cells.free H5.out.2.1 1
    simp only [List.getElem?_cons_zero, List.getElem?_cons_succ] at y0 y1
    clear r6 K6 c6 hw6 
    go_wp2_with fail
    rw [← HY.out]
    refine bodyPost_ret (results_cell_row rfl _ _ gc 50 _ _ _ rfl HE.out.2.2 Try.underlying50 rfl (by kernel_rfl)) rfl ?_
    refine Got.atom _ ?_
    refine got_rune rfl HE.out.1 HE.out.2.1 (Nat.le_refl _) (Nat.le_succ_of_le HP.out.2.2) (by rw [HAT.out]; rfl) (fun re r' e => ?_)
    rw [HAT.out] at e
    injection e with e
    injection e with e1 e2
    subst e1 e2
    exact ⟨rfl, cls_frag M _⟩
  by_cases h94 : c = 94
  · subst h94
    have HAT : Hid (atomR d (94 :: L) = some (.bol, L)) := hid (by rw [atom_cons]; simp)
    simp only [show ((94 : Nat) : Int) = 94 from rfl]
    have q5 := place_any w1 mb E _ M H1.out.1.mach HH.out.2.1 H1.out.1.lt _ _ (bol_fn w1 _)
    clear z2 z3 v2 v3
    go_wp2_with fail
    (with_reducible refine q5.mono ?_)
    clear q5 z0
    rintro e w5 ⟨rfl, E1, m5, g5⟩
    have r5 := H1.out.1.grew m5 g5
    have p5 := g5.kq.cells H1.out.2.1 HH.out.2.2.1
    have K5 := H1.out.2.2.trans (Rew.of_grew rb g5)
    have H5 := hid (And.intro r5 (And.intro p5 K5))
    clear r5 p5 K5 m5 g5
    obtain ⟨w6, hw6, r6, K6, c6⟩ := Ready.result H5.out.1 HH.out.1.rR HH.out.2.2.2.1 HH.out.2.2.2.2.1 HH.out.2.2.2.2.2 H5.out.2.2 H5.out.2.1 (.int .i64 ((M.length : Int) + 1)) (.int .i64 (M.length : Int))
    have HE := hid (And.intro r6 (And.intro K6 c6))
    have HY := hid hw6
    have y0 := Cells.cell H5.out.2.1 0
    have y1 := Cells.cell H5.out.2.1 1
    have f0 := Cells.free H5.out.2.1 0
    have f1 := Cells.free H5.out.2.1 1
    simp only [List.getElem?_cons_zero, List.getElem?_cons_succ] at y0 y1
    clear r6 K6 c6 hw6 
    go_wp2_with fail
    rw [← HY.out]
    refine bodyPost_ret (results_cell_row rfl _ _ gc 50 _ _ _ rfl HE.out.2.2 Try.underlying50 rfl (by kernel_rfl)) rfl ?_
    refine Got.atom _ ?_
    refine got_rune rfl HE.out.1 HE.out.2.1 (Nat.le_refl _) (Nat.le_succ_of_le HP.out.2.2) (by rw [HAT.out]; rfl) (fun re r' e => ?_)
    rw [HAT.out] at e
    injection e with e
    injection e with e1 e2
    subst e1 e2
    exact ⟨rfl, where_frag M _ mt_bol⟩
  by_cases h36 : c = 36
  · subst h36
    have HAT : Hid (atomR d (36 :: L) = some (.eol, L)) := hid (by rw [atom_cons]; simp)
    simp only [show ((36 : Nat) : Int) = 36 from rfl]
    have q5 := place_any w1 mb E _ M H1.out.1.mach HH.out.2.1 H1.out.1.lt _ _ (eol_fn w1 _)
    clear z2 z3 v2 v3
    go_wp2_with fail
    (with_reducible refine q5.mono ?_)
    clear q5 z0
    rintro e w5 ⟨rfl, E1, m5, g5⟩
    have r5 := H1.out.1.grew m5 g5
    have p5 := g5.kq.cells H1.out.2.1 HH.out.2.2.1
    have K5 := H1.out.2.2.trans (Rew.of_grew rb g5)
    have H5 := hid (And.intro r5 (And.intro p5 K5))
    clear r5 p5 K5 m5 g5
    obtain ⟨w6, hw6, r6, K6, c6⟩ := Ready.result H5.out.1 HH.out.1.rR HH.out.2.2.2.1 HH.out.2.2.2.2.1 HH.out.2.2.2.2.2 H5.out.2.2 H5.out.2.1 (.int .i64 ((M.length : Int) + 1)) (.int .i64 (M.length : Int))
    have HE := hid (And.intro r6 (And.intro K6 c6))
    have HY := hid hw6
    have y0 := Cells.cell H5.out.2.1 0
    have y1 := Cells.cell H5.out.2.1 1
    have f0 := Cells.free H5.out.2.1 0
    have f1 := Cells.free H5.out.2.1 1
    simp only [List.getElem?_cons_zero, List.getElem?_cons_succ] at y0 y1
    clear r6 K6 c6 hw6 
    go_wp2_with fail
    rw [← HY.out]
    refine bodyPost_ret (results_cell_row rfl _ _ gc 50 _ _ _ rfl HE.out.2.2 Try.underlying50 rfl (by kernel_rfl)) rfl ?_
    refine Got.atom _ ?_
    refine got_rune rfl HE.out.1 HE.out.2.1 (Nat.le_refl _) (Nat.le_succ_of_le HP.out.2.2) (by rw [HAT.out]; rfl) (fun re r' e => ?_)
    rw [HAT.out] at e
    injection e with e
    injection e with e1 e2
    subst e1 e2
    exact ⟨rfl, where_frag M _ mt_eol⟩
  by_cases h92 : c = 92
  · subst h92
    have HAT : Hid (atomR d (92 :: L) = slashR L) := hid (by rw [atom_cons]; simp)
    simp only [show ((92 : Nat) : Int) = 92 from rfl]
    have q5 := slashed_any w1 rb mb N E _ M L d H1.out.1 HH.out.2.1 (Nat.le_succ_of_le HP.out.2.2)
    clear z0 z2 z3 v2 v3
    go_wp2_with fail
    (with_reducible refine q5.mono ?_)
    clear q5
    rintro e w5 hg
    obtain ⟨f, l, E5, M5, L5, d5, bad5, rfl, r5, K5, g1, g2, g3, g4, g5, g6, g7, g8, g9, g10⟩ := hg.ex
    clear hg
    have p5 := K5.cells H1.out.2.1 HH.out.2.2.1 HH.out.2.2.2.1
    have HG := hid (And.intro g1 (And.intro g2 (And.intro g3 (And.intro g4 (And.intro g5 (And.intro g6 (And.intro g7 (And.intro g8 (And.intro g9 g10)))))))))
    have H5 := hid (And.intro r5 (And.intro p5 (H1.out.2.2.trans K5)))
    clear r5 p5 K5 g1 g2 g3 g4 g5 g6 g7 g8 g9 g10
    unfold partV
    obtain ⟨w6, hw6, r6, K6, c6⟩ := Ready.result H5.out.1 HH.out.1.rR HH.out.2.2.2.1 HH.out.2.2.2.2.1 HH.out.2.2.2.2.2 H5.out.2.2 H5.out.2.1 (.int .i64 (f : Int)) (.int .i64 (l : Int))
    have HE := hid (And.intro r6 (And.intro K6 c6))
    have HY := hid hw6
    have y0 := Cells.cell H5.out.2.1 0
    have y1 := Cells.cell H5.out.2.1 1
    have f0 := Cells.free H5.out.2.1 0
    have f1 := Cells.free H5.out.2.1 1
    simp only [List.getElem?_cons_zero, List.getElem?_cons_succ] at y0 y1
    clear r6 K6 c6 hw6 
    go_wp2_with fail
    rw [← HY.out]
    refine bodyPost_ret (results_cell_row rfl _ _ gc 50 _ _ _ rfl HE.out.2.2 Try.underlying50 rfl (by kernel_rfl)) rfl ?_
    refine Got.atom _ ?_
    obtain ⟨g1, g2, g3, g4, g5, g6, g7, g8, g9, g10⟩ := HG.out
    rw [HAT.out]
    exact ⟨f, l, E5, M5, L5, d5, bad5, rfl, HE.out.1, HE.out.2.1, g1, g2, g3, g4, g5, g6, g7, g8, g9, g10⟩
  obtain ⟨mk, hmk⟩ : ∃ b, b = ((⟨#[41, 93, 123, 125, 42, 43, 63, 124]⟩ : ByteArray).data.toList.any fun b => b.toNat == c) := ⟨_, rfl⟩
  have hmk2 : mk = markR c := by
    rw [hmk]
    show (([41, 93, 123, 125, 42, 43, 63, 124] : List UInt8).any fun b => b.toNat == c) = _
    rw [Bool.eq_iff_iff]
    simp [markR]
    omega
  have HAT : Hid (atomR d (c :: L) = if mk then none else some (.cls fun x => decide (x = c), L)) := hid (by rw [atom_cons, if_neg h40, if_neg h91, if_neg h46, if_neg h94, if_neg h36, if_neg h92, hmk2])
  have qc := fun W => contains_any ⟨#[41, 93, 123, 125, 42, 43, 63, 124]⟩ c W (ascii_of _ (by decide)) (by decide)
  rw [← hmk] at qc
  have n40 : ((c : Int) == 40) = false := beq_eq_false_iff_ne.2 (by omega)
  have n91 : ((c : Int) == 91) = false := beq_eq_false_iff_ne.2 (by omega)
  have n46 : ((c : Int) == 46) = false := beq_eq_false_iff_ne.2 (by omega)
  have n94 : ((c : Int) == 94) = false := beq_eq_false_iff_ne.2 (by omega)
  have n36 : ((c : Int) == 36) = false := beq_eq_false_iff_ne.2 (by omega)
  have n92 : ((c : Int) == 92) = false := beq_eq_false_iff_ne.2 (by omega)
  clear hmk hmk2 h40 h91 h46 h94 h36 h92
  go_upto_region 24 with fail
  go_cut [] (fun wx => ∃ w2, Kp [] w1 w2 ∧ wx = w2.setCell ⟨rb, 3, none⟩ (.bool mk))
  case first =>
    go_wp2_with fail
    (with_reducible refine (qc w1).mono ?_)
    clear qc
    rintro e w2 ⟨rfl, k2⟩
    obtain ⟨A2, c2, hc2, -, -, -, -⟩ := (H1.out.1.rd.kept k2).ex
    have f3 := hc2.free 3
    have x3 := hc2.cell 3
    simp only [List.getElem?_cons_zero, List.getElem?_cons_succ] at x3
    have HK := hid k2
    clear k2 hc2 A2 c2 z3 v3
    go_wp2_with fail
    go_meet
    exact ⟨w2, HK.out, rfl⟩
  case rest =>
    obtain ⟨w2, k2, hwc⟩ := hcut
    clear qc z0 z2 z3 v2 v3
    have r2 := H1.out.1.kept k2
    have k3 : Kp [rb] w2 wc := by rw [hwc]; exact (Kp.refl _ _).setCell (fun _ => by simp) _
    have rd3 : RdAt wc rb mb N L d mk := by rw [hwc]; exact r2.rd.mark _
    have r3 := r2.read k3 rd3
    have p3 := (H1.out.2.1.keep k2 (by simp)).keep k3 (by simpa using HH.out.2.2.2.1)
    have K3 := (H1.out.2.2.trans (Rew.of_kept E rb k2)).trans (Rew.of_kp E rb k3)
    have qo := one_any wc rb mb N E _ M L d mk r3.mach HH.out.2.1 r3.lt r3.rd c
    have H3 := hid (And.intro r3 (And.intro p3 K3))
    clear r2 k2 k3 rd3 r3 p3 K3 hwc
    go_wp2_with fail
    (with_reducible refine qo.mono ?_)
    clear qo
    rintro e w5 ⟨rfl, E1, m5, g5⟩
    have r5 := H3.out.1.grew m5 g5
    have p5 := g5.kq.cells H3.out.2.1 HH.out.2.2.1
    have K5 := H3.out.2.2.trans (Rew.of_grew rb g5)
    have H5 := hid (And.intro r5 (And.intro p5 K5))
    clear r5 p5 K5 m5 g5
    obtain ⟨w6, hw6, r6, K6, c6⟩ := Ready.result H5.out.1 HH.out.1.rR HH.out.2.2.2.1 HH.out.2.2.2.2.1 HH.out.2.2.2.2.2 H5.out.2.2 H5.out.2.1 (.int .i64 ((M.length : Int) + 1)) (.int .i64 (M.length : Int))
    have HE := hid (And.intro r6 (And.intro K6 c6))
    have HY := hid hw6
    have y0 := Cells.cell H5.out.2.1 0
    have y1 := Cells.cell H5.out.2.1 1
    have f0 := Cells.free H5.out.2.1 0
    have f1 := Cells.free H5.out.2.1 1
    simp only [List.getElem?_cons_zero, List.getElem?_cons_succ] at y0 y1
    clear r6 K6 c6 hw6 
    go_wp2_with fail
    rw [← HY.out]
    refine bodyPost_ret (results_cell_row rfl _ _ gc 50 _ _ _ rfl HE.out.2.2 Try.underlying50 rfl (by kernel_rfl)) rfl ?_
    refine Got.atom _ ?_
    refine got_rune rfl HE.out.1 HE.out.2.1 (Nat.le_refl _) (Nat.le_succ_of_le HP.out.2.2) (by rw [HAT.out]; cases mk <;> rfl) (fun re r' e => ?_)
    rw [HAT.out] at e
    cases mk
    · simp only [Bool.false_eq_true, if_false] at e
      injection e with e
      injection e with e1 e2
      subst e1 e2
      exact ⟨rfl, cls_frag M _⟩
    · cases e
end Go.Proofs.Ytaaikjedagnjbaa
