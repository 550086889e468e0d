/- AuditRight: what is refused for itself stops nothing; with room all else is released. -/
import Derived.Test.YtepeopfdenieeaaDoorRightLaw
import Derived.Test.YtepeopfdenieeaaDoorAuditCut
import Derived.Test.YtepeopfdenieeaaDoorRef17
namespace Go.Proofs.YtepeopfdenieeaaDoor
open Go Go.RowKit

set_option maxRecDepth 100000 in
set_option maxHeartbeats 8000000 in
theorem aright_any (w : World) (hT : Tabs w) (A : Option Addr) (n c : Nat) (ps : List Pc) (hs : PiecesAt w A ps) (hn : ps.length = n) (_hc : n ≤ c) (_hc2 : c ≤ 9223372036854775807) (hin : ∀ p ∈ ps, RecIn p.r) :
    Calls Tryd.prog 11 #[.slice A n c] w (YesPost w) := by
  have Hn := hid hn
  have Hin := hid hin
  clear hn hin
  go_enter Tryd.func11, Tryd.ntmps11
  go_wp2_with fail
  refine (shown19_any _ hT).mono ?_
  rintro e w1 ⟨rfl, k1⟩
  go_wp2_with fail
  refine (new_any w1 1048576 (-1)).mono ?_
  rintro e w2 ⟨rfl, s2, k2⟩
  go_wp2_with fail
  refine (new_any w2 1048576 (-1)).mono ?_
  rintro e w3 ⟨rfl, s3, k3⟩
  go_wp2_with fail
  refine (anew_any w3 w1.heap.size w2.heap.size).mono ?_
  rintro e w4 ⟨rfl, h4, k4⟩
  obtain ⟨ha, kw, hlt1, hlt2⟩ := sink_pair s2 k2 s3 k3 h4 k4
  have kw4 : Kp [] w w4 := k1.nil kw
  have hsz : w.heap.size ≤ w1.heap.size := k1.size
  obtain ⟨al, hal⟩ : ∃ al, al = w1.heap.size := ⟨_, rfl⟩
  obtain ⟨ao, hao⟩ : ∃ ao, ao = w2.heap.size := ⟨_, rfl⟩
  obtain ⟨a, haa⟩ : ∃ a, a = w3.heap.size := ⟨_, rfl⟩
  have htr : Trio w a al ao := ⟨by omega, by omega, by omega⟩
  rw [← hal, ← hao, ← haa] at ha
  rw [← hal] at hlt1
  rw [← hao] at hlt1 hlt2
  rw [← haa] at hlt2
  rw [← hal, ← hao, ← haa]
  have hok : (AK.mk (SK.make 1048576 (-1)) (SK.make 1048576 (-1)) 0).Ok := ⟨SK.make_ok _ _ (by omega), SK.make_ok _ _ (by omega)⟩
  clear s2 s3 h4 k2 k3 k4 kw k1 hal hao haa hsz
  go_wp2_with fail
  go_loopw [7, 8, 9] (fun v7 v8 i wr => ∃ (k : Nat) (s : AK) (qs : List Rec) (ws : List UInt8), k ≤ n ∧ k ≤ 40 ∧ i = .int .i64 k ∧ v7 = .string ⟨ws.toArray⟩ ∧ v8 = .int .i64 (qs.length : Nat) ∧ RightInv k s qs ws ∧ AuditAt wr a al ao s ∧ s.Ok ∧ Kp [] w wr) (fun _ _ i _ => n - (intOf i).toNat)
  case atStart => exact ⟨0, _, [], [], by omega, by omega, rfl, rfl, rfl, RightInv.start, ha, hok, kw4⟩
  case round =>
    clear ha hok kw4
    obtain ⟨k, s, qs, ws, hk, hk40, rfl, rfl, rfl, hinv, ha, hok, kr⟩ := hrel
    by_cases hlt : k < n ∧ k < 40
    · obtain ⟨hlt, hlt40⟩ := hlt
      have hkl : k < ps.length := by rw [Hn.out]; exact hlt
      obtain ⟨ad, hA, hpc⟩ := hs k _ (List.getElem?_eq_getElem hkl)
      subst hA
      obtain ⟨p, hp⟩ : ∃ p, p = ps[k] := ⟨_, rfl⟩
      have hz := (Hin.out _ (List.getElem_mem hkl)).sizes
      rw [← hp] at hpc hz
      clear hp hkl
      obtain ⟨Ap, cp, Bp, dp, hcells, hpis⟩ := piece_cells hpc
      obtain ⟨c0, c1, c2, c3, c4, c5⟩ := hcells wr kr
      have hpi := hpis wr kr
      clear hcells hpis hpc
      go_wp2_with fail
      refine (fewp_any wr p _ hpi hz).mono ?_
      rintro e w5 ⟨v5, rfl, ⟨Aq, cq, Bq, dq, rfl, q1, q2, q3, q4, q5, q6⟩, k5⟩
      have hfs := fewP_sizes p
      have hfb := fewP_b p
      have hfp := fewP_put p
      obtain ⟨f, hf⟩ : ∃ f, f = fewP p := ⟨_, rfl⟩
      rw [← hf] at q1 q2 q4 q5 hfs hfb hfp ⊢
      clear hf hpi c0 c1 c2 c3 c4 c5
      obtain ⟨nb, hnb⟩ : ∃ nb, nb = f.b.length := ⟨_, rfl⟩
      rw [← hnb] at q5 ⊢
      obtain ⟨w6, hw6, E6, k6⟩ : ∃ w6, w6 = w5.alloc (.cells #[.int .i64 f.r.doc, .int .i64 f.r.out, .int .i64 f.r.len, .slice Aq f.r.holes.length cq, .slice Bq nb dq, .bool f.right] 61) ∧
          Cells w6 w5.heap.size 61 [.int .i64 f.r.doc, .int .i64 f.r.out, .int .i64 f.r.len, .slice Aq f.r.holes.length cq, .slice Bq nb dq, .bool f.right] ∧ Kp [] w5 w6 := ⟨_, rfl, Cells.fresh _ _ _, (Kp.refl _ _).alloc _⟩
      have hPa : a < w5.heap.size := by have := ha.c.lt; have := k5.size; omega
      have hPl : al < w5.heap.size := by omega
      have hPo : ao < w5.heap.size := by omega
      have hR6 : RecIs w6 f.r (.agg #[.int .i64 f.r.doc, .int .i64 f.r.out, .int .i64 f.r.len, .slice Aq f.r.holes.length cq]) := ⟨Aq, cq, rfl, q1.kept k6, q2, q3⟩
      have ha6 := ha.kept (k5.nil k6)
      have kw6 := (kr.nil k5).nil k6
      have hb6 := q4.kept k6
      have HW6 := hid hw6
      have Hnb := hid hnb
      clear hw6 hnb
      go_wp2_with fail
      rw [← HW6.out]
      refine (rmay_any w6 f.r _ hR6 (fun x hx => Nat.le_trans (hfs x hx) (by omega))).mono ?_
      rintro e w7 ⟨rfl, k7⟩
      have E7 := E6.keep k7 (by simp)
      obtain ⟨P, hP⟩ : ∃ P, P = w5.heap.size := ⟨_, rfl⟩
      rw [← hP] at E7 hPa hPl hPo ⊢
      have g0 := E7.cell 0
      have g1 := E7.cell 1
      have g2 := E7.cell 2
      have g3 := E7.cell 3
      have g4 := E7.cell 4
      have g5 := E7.cell 5
      simp only [List.getElem?_cons_zero, List.getElem?_cons_succ] at g0 g1 g2 g3 g4 g5
      have HP := hid hP
      clear hP E6
      go_wp2_with fail
      refine (release_any w7 (hT.kept (kw6.nil k7)) a al ao s (ha6.kept k7) hok _ f.r (hR6.kept k7) (fun x hx => Nat.le_trans (hfs x hx) (by omega)) Bq nb dq f.b (hb6.kept k7) Hnb.out.symm q5 (by rw [Hnb.out]; omega)).mono ?_
      rintro e w8 ⟨rfl, ha8, k8⟩
      have kw8 := htr.kp (kw6.nil k7) k8
      have hok8 := hok.release f.r f.b (by omega)
      have E8 := E7.keep k8 (by simp; omega)
      have hb8 : Span w8 Bq (u8s f.b) := span_keep3 (ha6.kept k7) (hb6.kept k7) k8
      clear g0 g1 g2 g3 g4 g5
      have g2 := E8.cell 2
      have g4 := E8.cell 4
      simp only [List.getElem?_cons_zero, List.getElem?_cons_succ] at g2 g4
      obtain ⟨m, hm⟩ : ∃ m, m = mayOf f.r := ⟨_, rfl⟩
      rw [← hm]
      have Hm := hid hm
      clear hm ha6 hR6 hb6 E7 E8 ha
      by_cases hfine : m = 0 ∧ f.r.len = nb
      · obtain ⟨hm0, hlen⟩ := hfine
        subst hm0
        obtain ⟨hr0, hinv8⟩ := hinv.yes hlt40 Hm.out.symm (by rw [hlen, Hnb.out]) hfp hfb
        rw [hr0]
        rw [hlen] at g2
        have hcat := run_add_text (P := Tryd.prog) ws f.b (ws ++ f.b) rfl (by have := hinv.l2; omega)
        have hcv := run_text (P := Tryd.prog) Tryd.underlying25 Tryd.underlying5 Tryd.underlying9 hb8 nb dq Hnb.out.symm
        have hql := hinv.n
        obtain ⟨W2, hW2⟩ : ∃ W2, W2 = ws ++ f.b := ⟨_, rfl⟩
        obtain ⟨N, hN⟩ : ∃ N, N = qs.length := ⟨_, rfl⟩
        rw [← hW2] at hcat hinv8
        rw [← hN] at hql ⊢
        have HN := hid hN
        have Hinv8 := hid hinv8
        have Hlen := hid hlen
        clear hW2 hN hinv8 hr0 hlen hinv
        go_wp2_with fail
        refine (code_any w8 a al ao _ ha8).mono ?_
        rintro e w9 ⟨rfl, rfl⟩
        have hcode : (s.release f.r f.b).1.code = 0 := by rw [Hinv8.out.st]
        rw [hcode]
        obtain ⟨s8, hs8⟩ : ∃ s8, s8 = (s.release f.r f.b).1 := ⟨_, rfl⟩
        rw [← hs8] at Hinv8 ha8 hok8
        clear hcode hs8
        go_wp2_with fail
        go_roundw
        case rel => exact ⟨k + 1, s8, _, W2, by omega, by omega, by go_num, rfl, by rw [List.length_append, ← HN.out]; go_num, Hinv8.out, ha8, hok8, kw8⟩
        case measure => simp [intOf]; omega
      · obtain ⟨hr0, hinv8⟩ := hinv.no (f := f) (fun h => hfine ⟨by rw [Hm.out]; exact h.1, by rw [Hnb.out]; exact h.2⟩)
        rw [hr0] at ha8 hok8 ⊢
        rw [← Hm.out]
        have hcode : s.code = 0 := by rw [hinv.st]
        have Hinv8 := hid hinv8
        have Hcode := hid hcode
        obtain ⟨N, hN⟩ : ∃ N, N = qs.length := ⟨_, rfl⟩
        rw [← hN]
        have HN := hid hN
        clear hr0 hinv8 hcode hinv hN
        by_cases hm0 : m = 0
        · subst hm0
          have hlen : ¬ f.r.len = nb := fun h => hfine ⟨rfl, h⟩
          have hl1 : (f.r.len == (nb : Int)) = false := by simpa using hlen
          simp only [ne_eq, not_true_eq_false, if_false]
          clear hfine
          go_wp2_with fail
          refine (code_any w8 a al ao _ ha8).mono ?_
          rintro e w9 ⟨rfl, rfl⟩
          simp only [Hcode.out]
          go_wp2_with fail
          go_roundw
          case rel => exact ⟨k + 1, s, qs, ws, by omega, by omega, by go_num, rfl, by rw [← HN.out], Hinv8.out, ha8, hok8, kw8⟩
          case measure => simp [intOf]; omega
        · rw [if_pos hm0]
          have hm1 : (m == 0) = false := by simpa using hm0
          have hm2 : (m != 0) = true := by simpa using hm0
          clear hfine
          go_wp2_with fail
          refine (code_any w8 a al ao _ ha8).mono ?_
          rintro e w9 ⟨rfl, rfl⟩
          simp only [Hcode.out]
          go_wp2_with fail
          go_roundw
          case rel => exact ⟨k + 1, s, qs, ws, by omega, by omega, by go_num, rfl, by rw [← HN.out], Hinv8.out, ha8, hok8, kw8⟩
          case measure => simp [intOf]; omega
    · obtain ⟨hst, hmay, hl1, hl2, hqn, hsum⟩ := hinv
      have hbx := bytes_full wr al s.log ha.l (Nat.le_trans hok.l.len (by omega))
      have hby := fun wx (kx : Kp [] wr wx) => bytes_full wx ao s.out (ha.o.kept kx) (Nat.le_trans hok.o.len (by omega))
      have hll := fun wx (kx : Kp [] wr wx) => len_any wx al s.log (ha.l.kept kx)
      have hbx2 := fun wx (kx : Kp [] wr wx) => bytes_full wx al s.log (ha.l.kept kx) (Nat.le_trans hok.l.len (by omega))
      have e1 : s.log.xs = putAll qs := by rw [hst]
      have e2 : s.out.xs = ws := by rw [hst]
      rw [e1] at hbx hll hbx2
      rw [e2] at hby
      have hrows := rows_whole hmay
      obtain ⟨X, hX⟩ : ∃ X, X = putAll qs := ⟨_, rfl⟩
      rw [← hX] at hbx hll hbx2 hrows hl1
      obtain ⟨nx, hnx⟩ : ∃ nx, nx = X.length := ⟨_, rfl⟩
      obtain ⟨ny, hny⟩ : ∃ ny, ny = ws.length := ⟨_, rfl⟩
      obtain ⟨N, hN⟩ : ∃ N, N = qs.length := ⟨_, rfl⟩
      rw [← hnx] at hl1 hll
      rw [← hny] at hl2 hsum
      rw [← hN] at hqn ⊢
      have hnx9 : nx ≤ 60000 := by omega
      have hny9 : ny ≤ 60000 := by omega
      have Hnx := hid hnx
      have Hny := hid hny
      have HN := hid hN
      have HX := hid hX
      have Hbx := hid hbx
      have Hby := hid hby
      have Hbx2 := hid hbx2
      have Hll := hid hll
      have Hrows := hid hrows
      have Hsum := hid hsum
      clear hX hnx hny hN hbx hby hbx2 hll hrows hsum ha hok hst hmay e1 e2 hl1 hl2
      rcases (show ¬ k < n ∨ (k < n ∧ ¬ k < 40) from by omega) with hx | ⟨hx1, hx2⟩
      all_goals
        go_wp2_with fail
        refine Hbx.out.mono ?_
        rintro e w5 ⟨A5, c5, rfl, sx, k5, -, hx5, hx52⟩
        rw [← Hnx.out] at hx5 ⊢
        go_wp2_with fail
        refine (recover_any w5 (hT.kept (kr.nil k5)) A5 nx c5 X sx Hnx.out.symm hx5 hx52 (by omega)).mono ?_
        rintro e w6 ⟨us, rest, v6, hrows6, rfl, hro6, k6, -⟩
        obtain ⟨h1, -⟩ := Hrows.out.one hrows6
        subst us
        obtain ⟨A6, c6, rfl, -⟩ := hro6.shape
        rw [← HX.out, ← HN.out, ← Hnx.out]
        have k56 := k5.nil k6
        clear hrows6 hro6
        go_wp2_with fail
        refine (Hby.out w6 k56).mono ?_
        rintro e w7 ⟨A7, c7, rfl, sy, k7, -⟩
        rw [← Hny.out]
        have hcv := run_text (P := Tryd.prog) Tryd.underlying25 Tryd.underlying5 Tryd.underlying9 sy ny c7 Hny.out.symm
        have k57 := k56.nil k7
        go_wp2_with fail
        refine (Hll.out w7 k57).mono ?_
        rintro e w8 ⟨rfl, rfl⟩
        go_wp2_with fail
        refine (Hbx2.out w7 k57).mono ?_
        rintro e w9 ⟨A9, c9, rfl, sx9, k9, -, hx9, hx92⟩
        rw [← Hnx.out] at hx9 ⊢
        have k59 := k57.nil k9
        go_wp2_with fail
        refine (Hby.out w9 k59).mono ?_
        rintro e w10 ⟨A10, c10, rfl, -, k10, -⟩
        rw [← Hny.out]
        have k510 := k59.nil k10
        go_wp2_with fail
        refine (proved_any w10 (hT.kept (kr.nil k510)) A9 nx c9 X (sx9.kept k10) Hnx.out.symm hx9 hx92 (by omega) A10 ny c10 (by omega)).mono ?_
        rintro e w11 ⟨us, rest3, hrows3, rfl, k11⟩
        obtain ⟨h1, -⟩ := Hrows.out.one hrows3
        subst us
        rw [Hsum.out]
        have kz := (kr.nil k510).nil k11
        clear hrows3
        go_wp2_with fail
        go_ret
        exact ⟨by simp, kz⟩
end Go.Proofs.YtepeopfdenieeaaDoor
