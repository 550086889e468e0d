/- AuditProves: each output of which a byte was written has its whole record in the log. -/
import Derived.Test.YtepeopfdenieeaaDoorProvesLaw
import Derived.Test.YtepeopfdenieeaaDoorAuditCut
import Derived.Test.YtepeopfdenieeaaDoorRowsLaw
namespace Go.Proofs.YtepeopfdenieeaaDoor
open Go Go.RowKit

section
variable {w w' : World} {v : Value} {qs : List Rec} {S : List Nat} {e : TypeId} {s n : Nat} {xs : List Value}
theorem OwnN.keep_blocks (h : OwnN w e s v n xs) (hS : ∀ x ∈ S, ∃ t cs, Cells w x t cs ∧ e ≠ t) (k : Kp S w w') : OwnN w' e s v n xs :=
  h.keep k (fun g hg hm => by
    obtain ⟨t, cs, hc, hne⟩ := hS g hm
    rcases h.2 with ⟨rfl, _⟩ | ⟨g1, c1, cur1, rfl, _, hg1, _⟩
    · simp [Value.ownBlock] at hg
    · have e1 : g1 = g := by simpa [Value.ownBlock] using hg
      subst e1
      unfold Cells at hc
      rw [hg1] at hc
      injection hc with hc
      injection hc with _ ht
      exact hne ht)
theorem OwnN.ne_block (h : OwnN w e s v n xs) {g : Nat} {t : TypeId} {cs : List Value} (hc : Cells w g t cs) (hne : e ≠ t) : v.ownBlock ≠ some g := by
  intro hg
  rcases h.2 with ⟨rfl, _⟩ | ⟨g1, c1, cur1, rfl, _, hg1, _⟩
  · simp [Value.ownBlock] at hg
  · have e1 : g1 = g := by simpa [Value.ownBlock] using hg
    subst e1
    unfold Cells at hc
    rw [hg1] at hc
    injection hc with hc
    injection hc with _ ht
    exact hne ht
theorem RowT.keep_blocks (h : RowT w v qs) (hS : ∀ x ∈ S, ∃ t cs, Cells w x t cs ∧ 24 ≠ t ∧ 9 ≠ t) (k : Kp S w w') : RowT w' v qs := by
  obtain ⟨xs, h1, h5⟩ := h
  refine ⟨xs, h1.keep_blocks (fun x hx => by obtain ⟨t, cs, a, b, _⟩ := hS x hx; exact ⟨t, cs, a, b⟩) k, fun i r hi => ?_⟩
  obtain ⟨A, c, a1, a2⟩ := h5 i r hi
  exact ⟨A, c, a1, a2.keep_blocks (fun x hx => by obtain ⟨t, cs, a, _, b⟩ := hS x hx; exact ⟨t, cs, a, b⟩) k⟩
end
theorem audit_blocks {w : World} {a al ao : Nat} {s : AK} (h : AuditAt w a al ao s) : ∀ x ∈ [a, al, ao], ∃ t cs, Cells w x t cs ∧ 24 ≠ t ∧ 9 ≠ t := by
  intro x hx
  simp only [List.mem_cons, List.not_mem_nil, or_false] at hx
  rcases hx with rfl | rfl | rfl
  · exact ⟨_, _, h.c, by decide, by decide⟩
  · obtain ⟨cs, hcs, _⟩ := sink_no h.l; exact ⟨_, _, hcs, by decide, by decide⟩
  · obtain ⟨cs, hcs, _⟩ := sink_no h.o; exact ⟨_, _, hcs, by decide, by decide⟩
theorem code_q (w : World) (a al ao : Nat) (s : AK) (h : AuditAt w a al ao s) (g : Int) (hg : g = s.code) : ∀ q,
    Calls Tryd.prog 31 #[.pointer (some ⟨a, 0, none⟩)] (w.drewN q) fun e w' => e = .returned (.int .i64 g) ∧ w' = w.drewN q := fun q =>
  (code_any _ a al ao s (h.kept ((Kp.refl _ _).drewN q))).mono fun _ _ ⟨h1, h2⟩ => ⟨by rw [h1, hg], h2.symm⟩
theorem len_q (w : World) (a : Nat) (s : SK) (hs : SinkAt w a s) (n : Nat) (hn : n = s.xs.length) : ∀ q,
    Calls Tryd.prog 36 #[.pointer (some ⟨a, 0, none⟩)] (w.drewN q) fun e w' => e = .returned (.int .i64 (n : Nat)) ∧ w' = w.drewN q := fun q =>
  (len_any _ a s (hs.kept ((Kp.refl _ _).drewN q))).mono fun _ _ ⟨h1, h2⟩ => ⟨by rw [h1, hn], h2.symm⟩

set_option maxRecDepth 100000 in
set_option maxHeartbeats 16000000 in
theorem aproves_any (w : World) (hT : Tabs w) (t0 t1 t2 t3 : Int) (_h0 : -9223372036854775808 ≤ t0 ∧ t0 ≤ 9223372036854775807) (h1 : -9223372036854775808 ≤ t1 ∧ t1 ≤ 9223372036854775807) (_h2 : -9223372036854775808 ≤ t2 ∧ t2 ≤ 9223372036854775807) (h3 : -9223372036854775808 ≤ t3 ∧ t3 ≤ 9223372036854775807)
    (A : Option Addr) (n c : Nat) (ps : List Pc) (hs : PiecesAt w A ps) (hn : ps.length = n) (_hc : n ≤ c) (_hc2 : c ≤ 9223372036854775807) (hin : ∀ p ∈ ps, RecIn p.r) :
    Calls Tryd.prog 10 #[.agg #[.int .i64 t0, .int .i64 t1, .int .i64 t2, .int .i64 t3], .slice A n c] w (YesPost w) := by
  have Hn := hid hn
  have Hin := hid hin
  clear hn hin
  obtain ⟨w0, hw0, D0, K0⟩ : ∃ w0, w0 = w.alloc (.cells #[.int .i64 t0, .int .i64 t1, .int .i64 t2, .int .i64 t3] 49) ∧ Cells w0 w.heap.size 49 [.int .i64 t0, .int .i64 t1, .int .i64 t2, .int .i64 t3] ∧ Kp [] w w0 := ⟨_, rfl, Cells.fresh _ _ _, (Kp.refl _ _).alloc _⟩
  obtain ⟨S, hS⟩ : ∃ S, S = w.heap.size := ⟨_, rfl⟩
  rw [← hS] at D0
  have HW := hid (And.intro hw0 hS)
  clear hw0 hS
  have hok : (AK.mk (SK.make t0 t1) (SK.make t2 t3) 0).Ok := ⟨SK.make_ok _ _ h1.2, SK.make_ok _ _ h3.2⟩
  go_enter Tryd.func10, Tryd.ntmps10
  go_wp2_with fail
  rw [← HW.out.1, ← HW.out.2]
  refine (shown19_any _ (hT.kept K0)).mono ?_
  rintro e w1 ⟨rfl, k1⟩
  have D1 := D0.keep k1 (by simp)
  have d0 := D1.cell 0
  have d1 := D1.cell 1
  simp only [List.getElem?_cons_zero, List.getElem?_cons_succ] at d0 d1
  go_wp2_with fail
  refine (new_any w1 t0 t1).mono ?_
  rintro e w2 ⟨rfl, s2, k2⟩
  have D2 := D1.keep k2 (by simp)
  have d2 := D2.cell 2
  have d3 := D2.cell 3
  simp only [List.getElem?_cons_zero, List.getElem?_cons_succ] at d2 d3
  go_wp2_with fail
  refine (new_any w2 t2 t3).mono ?_
  rintro e w3 ⟨rfl, s3, k3⟩
  go_wp2_with fail
  refine (anew_any w3 w1.heap.size w2.heap.size).mono ?_
  rintro e w4 ⟨rfl, h4, k4⟩
  obtain ⟨ha, kw, hlt1, hlt2⟩ := sink_pair s2 k2 s3 k3 h4 k4
  have kw4 : Kp [] w w4 := (K0.nil k1).nil kw
  have hsz : w.heap.size ≤ w1.heap.size := (K0.nil k1).size
  obtain ⟨al, hal⟩ : ∃ al, al = w1.heap.size := ⟨_, rfl⟩
  obtain ⟨ao, hao⟩ : ∃ ao, ao = w2.heap.size := ⟨_, rfl⟩
  obtain ⟨a, haa⟩ : ∃ a, a = w3.heap.size := ⟨_, rfl⟩
  have htr : Trio w a al ao := ⟨by omega, by omega, by omega⟩
  rw [← hal, ← hao, ← haa] at ha
  rw [← hal] at hlt1
  rw [← hao] at hlt1 hlt2
  rw [← haa] at hlt2
  rw [← hal, ← hao, ← haa]
  clear s2 s3 h4 k2 k3 k4 kw k1 hal hao haa hsz D0 D1 D2 d0 d1 d2 d3 h1 h3
  obtain ⟨g5, r5, n5, ha5⟩ : RowT (w4.alloc (.cells #[] 24)) (.slice (some ⟨w4.heap.size, 0, none⟩) 0 0) [] ∧ Kp [] w4 (w4.alloc (.cells #[] 24)) ∧ New w (w4.alloc (.cells #[] 24)) (.slice (some ⟨w4.heap.size, 0, none⟩) 0 0) ∧ AuditAt (w4.alloc (.cells #[] 24)) a al ao ⟨SK.make t0 t1, SK.make t2 t3, 0⟩ :=
    ⟨RowT.of_empty (Cells.fresh _ _ _), (Kp.refl _ _).alloc _, ⟨kw4.alloc _, fun g hg => by have e : w4.heap.size = g := (by simpa [Value.ownBlock] using hg); have := kw4.size; omega⟩, ha.kept ((Kp.refl _ _).alloc _)⟩
  go_wp2_with fail
  go_loopw [9, 10, 11] (fun v9 v10 i wr => ∃ (k : Nat) (s : AK) (ds : List Rec) (ws : List UInt8), k ≤ n ∧ k ≤ 40 ∧ i = .int .i64 k ∧ v10 = .string ⟨ws.toArray⟩ ∧ RowT wr v9 ds ∧ ProvInv s ds ws ∧ AuditAt wr a al ao s ∧ s.Ok ∧ New w wr v9 ∧ ds.length ≤ k ∧ ws.length ≤ k * 100) (fun _ _ i _ => n - (intOf i).toNat)
  case atStart => exact ⟨0, _, [], [], by omega, by omega, rfl, rfl, g5, ProvInv.start _ _ _ _, ha5, hok, n5, by simp, by simp⟩
  case round =>
    clear g5 r5 n5 ha5 hok ha kw4
    obtain ⟨k, s, ds, ws, hk, hk40, rfl, rfl, hrow, hinv, ha, hok, hnw, hdl, hwl⟩ := hrel
    have kr := hnw.kp
    by_cases hlt : k < n ∧ k < 40
    · obtain ⟨hlt, hlt40⟩ := hlt
      have hkl : k < ps.length := by rw [Hn.out]; exact hlt
      obtain ⟨ad, hA, hpc⟩ := hs k _ (List.getElem?_eq_getElem hkl)
      subst hA
      obtain ⟨p, hp⟩ : ∃ p, p = ps[k] := ⟨_, rfl⟩
      have hz := (Hin.out _ (List.getElem_mem hkl)).sizes
      rw [← hp] at hpc hz
      clear hp hkl
      obtain ⟨Ap, cp, Bq, dq, hcells, hpis⟩ := piece_cells hpc
      have hbw0 := ((hpis w (Kp.refl _ _)).parts).2.2.2.1.take8 100
      obtain ⟨c0, c1, c2, c3, c4, c5⟩ := hcells wr kr
      have hpi := hpis wr kr
      clear hcells hpis hpc
      go_wp2_with fail
      refine (fewp_own wr p _ _ _ _ hpi hz).mono ?_
      rintro e w5 ⟨Aq, cq, rfl, q1, q3, q4, q5, q6, k5⟩
      have hbw : Span w Bq (u8s (fewP p).b) := hbw0
      clear hbw0
      have hfs := fewP_sizes p
      have hfb := fewP_b p
      obtain ⟨f, hf⟩ : ∃ f, f = fewP p := ⟨_, rfl⟩
      rw [← hf] at q1 q4 q5 hfs hfb hbw ⊢
      clear hf hpi c0 c1 c2 c3 c4 c5
      obtain ⟨nb, hnb⟩ : ∃ nb, nb = f.b.length := ⟨_, rfl⟩
      rw [← hnb] at q5 ⊢
      have hnb9 : nb ≤ 100 := by omega
      obtain ⟨w6, hw6, E6, k6⟩ : ∃ w6, w6 = w5.alloc (.cells #[.int .i64 f.r.doc, .int .i64 f.r.out, .int .i64 f.r.len, .slice Aq f.r.holes.length cq, .slice Bq nb dq, .bool f.right] 61) ∧
          Cells w6 w5.heap.size 61 [.int .i64 f.r.doc, .int .i64 f.r.out, .int .i64 f.r.len, .slice Aq f.r.holes.length cq, .slice Bq nb dq, .bool f.right] ∧ Kp [] w5 w6 := ⟨_, rfl, Cells.fresh _ _ _, (Kp.refl _ _).alloc _⟩
      have hPa : a < w5.heap.size := by have := ha.c.lt; have := k5.size; omega
      have hPl : al < w5.heap.size := by omega
      have hPo : ao < w5.heap.size := by omega
      have hR6 : RecIs w6 f.r (.agg #[.int .i64 f.r.doc, .int .i64 f.r.out, .int .i64 f.r.len, .slice Aq f.r.holes.length cq]) := by
        obtain ⟨A', c', e1, sp, g1, -, -⟩ := q1.shape
        injection e1 with e1 e2 e3
        subst e1 e3
        exact ⟨Aq, cq, rfl, sp.kept k6, g1, q3⟩
      have hT6 := OwnN.kept (s := 1) q1 k6
      have ha6 := ha.kept (k5.nil k6)
      have kw6 := (kr.nil k5).nil k6
      have hb6 := q4.kept k6
      have hrow6 := hrow.kept (k5.nil k6)
      have HW6 := hid hw6
      have Hnb := hid hnb
      obtain ⟨P, hP⟩ : ∃ P, P = w5.heap.size := ⟨_, rfl⟩
      rw [← hP] at E6 hPa hPl hPo
      have HP := hid hP
      clear hw6 hnb hP q1 q4 hfb
      go_wp2_with fail
      rw [← HW6.out, ← HP.out]
      refine (len_any w6 ao s.out ha6.o).mono ?_
      rintro e w7 ⟨rfl, rfl⟩
      obtain ⟨lo, hlo⟩ : ∃ lo, lo = s.out.xs.length := ⟨_, rfl⟩
      rw [← hlo]
      have Hlo := hid hlo
      clear hlo
      go_wp2_with fail
      refine (code_any w6 a al ao s ha6).mono ?_
      rintro e w7 ⟨rfl, rfl⟩
      obtain ⟨g, hg⟩ : ∃ g, g = s.code := ⟨_, rfl⟩
      rw [← hg]
      have Hg := hid hg
      clear hg
      have g0 := E6.cell 0
      have g1 := E6.cell 1
      have g2 := E6.cell 2
      have g3 := E6.cell 3
      have g4 := E6.cell 4
      have g5 := E6.cell 5
      simp only [List.getElem?_cons_zero, List.getElem?_cons_succ] at g0 g1 g2 g3 g4 g5
      go_wp2_with fail
      refine (release_any w6 (hT.kept kw6) a al ao s ha6 hok _ f.r hR6 (fun x hx => Nat.le_trans (hfs x hx) (by omega)) Bq nb dq f.b hb6 Hnb.out.symm q5 (by omega)).mono ?_
      rintro e w8 ⟨rfl, ha8, k8⟩
      have kw8 := htr.kp kw6 k8
      have hok8 := hok.release f.r f.b (by rw [← Hnb.out]; omega)
      have E8 := E6.keep k8 (by simp; omega)
      have hb8 : Span w8 Bq (u8s f.b) := span_keep3 ha6 hb6 k8
      have hrow8 := hrow6.keep_blocks (audit_blocks ha6) k8
      have hT8 := hT6.keep_blocks (fun x hx => by obtain ⟨t, cs, a, _, b⟩ := audit_blocks ha6 x hx; exact ⟨t, cs, a, b⟩) k8
      clear g0 g1 g2 g3 g4 g5 E6 hb6 hrow6 hT6 ha6 hR6 ha hrow
      have hst := hinv.step f.r f.b
      have hlive := hinv.live
      obtain ⟨s8, hs8⟩ : ∃ s8, s8 = (s.release f.r f.b).1 := ⟨_, rfl⟩
      obtain ⟨e8, he8⟩ : ∃ e8, e8 = (s.release f.r f.b).2 := ⟨_, rfl⟩
      rw [← hs8] at ha8 hok8
      rw [← he8]
      have Hs8 := hid hs8
      have He8 := hid he8
      clear hs8 he8
      rcases hst with ⟨hc0, hrel⟩ | ⟨hc0, he0, hi8⟩ | ⟨hc0, he0, hlen, hmy, hi8, hc8⟩
      · -- stopped
        have hs88 : s8 = s := by rw [Hs8.out, hrel]
        have he88 : e8 = g := by rw [He8.out, hrel, ← Hg.out]
        rw [hs88] at ha8 hok8
        rw [he88]
        have hg0 : ¬ g = 0 := by rw [Hg.out]; exact hc0
        have hb1 : (g != 0) = true := by simpa using hg0
        have hb2 : (g == 0) = false := by simpa using hg0
        have Hinv := hid hinv
        clear hs88 he88 hc0 hrel hinv hlive hb8 E8 hT8
        have Hqc := hid (code_q w8 a al ao s ha8 g Hg.out)
        have Hql := hid (len_q w8 ao s.out ha8.o lo Hlo.out)
        go_wp2_with fail
        go_quiet (first | (go_at_call 31; exact Calls.quiet_of_same (Hqc.out _)) | (go_at_call 36; exact Calls.quiet_of_same (Hql.out _)))
        generalize nq = n1 at *
        have r8 := hrow8.kept ((Kp.refl [] w8).drewN n1)
        have a8 := ha8.kept ((Kp.refl [] w8).drewN n1)
        have m8 : New w (w8.drewN n1) u9 := ⟨kw8.drewN n1, hnw.blk⟩
        go_wp2_with fail
        go_roundw
        case rel => exact ⟨k + 1, s, ds, ws, by omega, by omega, by go_num, rfl, r8, Hinv.out, a8, hok8, m8, by omega, Nat.le_trans hwl (Nat.mul_le_mul_right _ (by omega))⟩
        case measure => simp [intOf]; omega
      · -- refused, or it failed
        have hg0 : g = 0 := by rw [Hg.out]; exact hc0
        subst hg0
        rw [← Hs8.out] at hi8
        rw [← He8.out] at he0
        have hb2 : (e8 == 0) = false := by simpa using he0
        have Hi8 := hid hi8
        clear hc0 hi8 he0 hinv hlive hb8 E8 hT8
        go_wp2_with fail
        go_quiet (fail)
        generalize nq = n1 at *
        have r8 := hrow8.kept ((Kp.refl [] w8).drewN n1)
        have a8 := ha8.kept ((Kp.refl [] w8).drewN n1)
        have m8 : New w (w8.drewN n1) u9 := ⟨kw8.drewN n1, hnw.blk⟩
        go_wp2_with fail
        go_roundw
        case rel => exact ⟨k + 1, s8, ds, ws, by omega, by omega, by go_num, rfl, r8, Hi8.out, a8, hok8, m8, by omega, Nat.le_trans hwl (Nat.mul_le_mul_right _ (by omega))⟩
        case measure => simp [intOf]; omega
      · -- released
        have hg0 : g = 0 := by rw [Hg.out]; exact hc0
        subst hg0
        rw [← Hs8.out] at hi8 hc8
        rw [← He8.out] at he0
        rw [he0]
        obtain ⟨hl1, hl2⟩ := hlive hc0
        have hlo2 : lo = ws.length := by rw [Hlo.out, hl2]
        have hlo8 : lo + nb = s8.out.xs.length := by rw [(hi8.live hc8).2, List.length_append, ← Hnb.out, hlo2]
        have Hql := hid (len_q w8 ao s8.out ha8.o (lo + nb) hlo8)
        have Hi8 := hid hi8
        have g4 := E8.cell 4
        simp only [List.getElem?_cons_zero, List.getElem?_cons_succ] at g4
        have hlo9 : lo ≤ 5000 := by rw [hlo2]; omega
        have i1 : IntKind.i64.wrap ((lo : Int) + (nb : Int)) = ((lo + nb : Nat) : Int) := by rw [IntWalk.i64_in _ (by omega)]; omega
        clear hc0 hi8 he0 hinv hlive hl1 hl2 hlo2 hlo8 hc8 hlen hmy
        go_wp2_with fail
        go_quiet (first | (go_at_call 36; exact Calls.quiet_of_same (Hql.out _)))
        generalize nq = n1 at *
        have k89 : Kp [] w8 (w8.drewN n1) := (Kp.refl _ _).drewN n1
        have r9 := hrow8.kept k89
        have a9 := ha8.kept k89
        have E9 := E8.keep k89 (by simp)
        have hT9 := hT8.kept k89
        have kw9 := kw8.nil k89
        clear hrow8 ha8 E8 hT8 i1 g4 hb8 Hql k89
        generalize w8.drewN n1 = w9 at *
        have g0 := E9.cell 0
        have g1 := E9.cell 1
        have g2 := E9.cell 2
        have g3 := E9.cell 3
        simp only [List.getElem?_cons_zero, List.getElem?_cons_succ] at g0 g1 g2 g3
        have k10 : Kp [] w9 (w9.alloc (.cells (recCells f.r Aq cq).toArray 24)) := (Kp.refl _ _).alloc _
        have hT10 := hT9.kept k10
        obtain ⟨xs, hx1, hx2⟩ := r9.kept k10
        have hsN : Span (w9.alloc (.cells (recCells f.r Aq cq).toArray 24)) (some ⟨w9.heap.size, 0, none⟩) (recCells f.r Aq cq) := Span.of_cells (Cells.fresh _ _ _)
        have a10 := a9.kept k10
        have E10 := E9.keep k10 (by simp)
        have m10 : New w (w9.alloc (.cells (recCells f.r Aq cq).toArray 24)) u9 := ⟨kw9.nil k10, hnw.blk⟩
        clear r9 a9 E9 hT9
        go_wp2_with (at_builtin; go_must (refine wpList_appendN rfl _ _ 35 rfl 24 _ 4 48 Tryd.underlying35 infoRec rfl (by omega) _ ds.length xs rfl hx1 _ 1 1 (recCells f.r Aq cq) rfl hsN rfl (recCells_one _ _ _) ?_ ?_ ?_))
        · omega
        · omega
        intro v11 w11 p11 k11 b11
        have r11 : RowT w11 v11 (ds ++ [f.r]) := RowT.snoc ⟨hx1, hx2⟩ p11 k11 hT10
        have m11 := m10.append k11 b11 (by simp)
        have a11 : AuditAt w11 a al ao s8 := by
          refine ⟨a10.c.keep k11 (fun hm => ?_), a10.l.keep k11 (fun hm => ?_) (fun x hxm => ?_), a10.o.keep k11 (fun hm => ?_) (fun x hxm => ?_), a10.ne⟩
          · exact hx1.ne_block a10.c (by decide) (by simpa using hm)
          · obtain ⟨cs, hcs, _⟩ := sink_no a10.l; exact hx1.ne_block hcs (by decide) (by simpa using hm)
          · intro cs hcs; exact hx1.ne_block hcs (by decide) (by simpa using hxm)
          · obtain ⟨cs, hcs, _⟩ := sink_no a10.o; exact hx1.ne_block hcs (by decide) (by simpa using hm)
          · intro cs hcs; exact hx1.ne_block hcs (by decide) (by simpa using hxm)
        have E11 := E10.keep k11 (fun hm => hx1.ne_block E10 (by decide) (by simpa using hm))
        have hb11 := hbw.kept m11.kp
        have hcat := run_add_text (P := Tryd.prog) ws f.b (ws ++ f.b) rfl (by have := Hnb.out; omega)
        have hcv := run_text (P := Tryd.prog) Tryd.underlying25 Tryd.underlying5 Tryd.underlying9 hb11 nb dq Hnb.out.symm
        have g4 := E11.cell 4
        simp only [List.getElem?_cons_zero, List.getElem?_cons_succ] at g4
        have hwl2 : (ws ++ f.b).length ≤ (k + 1) * 100 := by rw [List.length_append, ← Hnb.out, Nat.add_mul, Nat.one_mul]; omega
        have Hwl2 := hid hwl2
        obtain ⟨W2, hW2⟩ : ∃ W2, W2 = ws ++ f.b := ⟨_, rfl⟩
        rw [← hW2] at hcat Hi8 Hwl2
        clear hW2 hwl2 p11 k11 b11 hx1 hx2 hT10 hsN a10 E10 m10 g0 g1 g2 g3
        go_wp2_with fail
        go_roundw
        case rel => exact ⟨k + 1, s8, _, W2, by omega, by omega, by go_num, rfl, r11, Hi8.out, a11, hok8, m11, by rw [List.length_append]; simp only [List.length_cons, List.length_nil]; omega, Hwl2.out⟩
        case measure => simp [intOf]; omega
    · obtain ⟨us, rest, hrows, hu1, hu2, hu3, ⟨u, hout⟩, hprov, hmore⟩ := hinv.tells
      have hbx := fun wx (kx : Kp [] wr wx) => bytes_full wx al s.log (ha.l.kept kx) (Nat.le_trans hok.l.len (by omega))
      have hby := fun wx (kx : Kp [] wr wx) => bytes_full wx ao s.out (ha.o.kept kx) (Nat.le_trans hok.o.len (by omega))
      have hxl := hok.l.len
      have hyl := hok.o.len
      obtain ⟨A9, c9, rfl, hR9, hc9, hc92⟩ := hrow.recs.shape
      obtain ⟨X, hX⟩ : ∃ X, X = s.log.xs := ⟨_, rfl⟩
      obtain ⟨Y, hY⟩ : ∃ Y, Y = s.out.xs := ⟨_, rfl⟩
      rw [← hX] at hbx hrows hxl
      rw [← hY] at hby hout hprov hmore hyl
      obtain ⟨nx, hnx⟩ : ∃ nx, nx = X.length := ⟨_, rfl⟩
      obtain ⟨ny, hny⟩ : ∃ ny, ny = Y.length := ⟨_, rfl⟩
      obtain ⟨M, hM⟩ : ∃ M, M = ds.length := ⟨_, rfl⟩
      obtain ⟨U, hU⟩ : ∃ U, U = us.length := ⟨_, rfl⟩
      obtain ⟨wb, hwb⟩ : ∃ wb : ByteArray, wb = ⟨ws.toArray⟩ := ⟨_, rfl⟩
      obtain ⟨bb, hbb⟩ : ∃ bb : ByteArray, bb = ⟨Y.toArray⟩ := ⟨_, rfl⟩
      have hws : wb.size = ws.length := by rw [hwb]; exact text_size ws
      have hbs : bb.size = ny := by rw [hbb, hny]; exact text_size Y
      have hext : bb.extract 0 wb.size = wb := by rw [hws, hbb, hwb, hout]; exact text_cut ws u
      have hle : wb.size ≤ bb.size := by
        have := congrArg List.length hout
        rw [List.length_append] at this
        omega
      rw [← hwb]
      rw [← hM] at hu1 hu2 hu3 hmore hc9 hdl ⊢
      rw [← hU] at hu2 hu3 hmore
      rw [← hny, ← hbs] at hprov hmore
      rw [← hny, ← hbs] at hyl
      rw [← hnx] at hxl
      rw [← hws] at hmore hwl
      have Hnx := hid hnx
      have Hny := hid hny
      have HM := hid hM
      have HU := hid hU
      have Hbb := hid hbb
      have Hbs := hid hbs
      have Hext := hid hext
      have Hu1 := hid hu1
      have Hrows := hid hrows
      have Hbx := hid hbx
      have Hby := hid hby
      have Hprov := hid hprov
      clear hnx hny hM hU hbb hbs hwb hws hX hY hext hu1 hrows hbx hby hout hprov ha hok hinv hrow hnw
      rcases (show ¬ k < n ∨ (k < n ∧ ¬ k < 40) from by omega) with hx | ⟨hx1, hx2⟩
      all_goals
        go_wp2_with fail
        refine (Hbx.out wr (Kp.refl _ _)).mono ?_
        rintro e w5 ⟨A5, c5, rfl, sx, k5, -, hx5, hx52⟩
        rw [← Hnx.out] at hx5 ⊢
        go_wp2_with fail
        refine (recover_any w5 (hT.kept (kr.nil k5)) A5 nx c5 X sx Hnx.out.symm hx5 hx52 (by omega)).mono ?_
        rintro e w6 ⟨us', rest', v6, hrows6, rfl, hro6, k6, -⟩
        obtain ⟨h1, -⟩ := Hrows.out.one hrows6
        subst us'
        obtain ⟨A6, c6, rfl, hR6, hc6, hc62⟩ := hro6.shape
        rw [← HU.out] at hc6 ⊢
        have k56 := k5.nil k6
        have iM : (M : Int) ≤ (c6 : Int) := by omega
        have hR96 := hR9.kept k56
        have hsame := same_any w6 A6 c6 ds (by have := hR6.take M; rwa [Hu1.out] at this) A9 c9 ds hR96 (by rw [← HM.out]; omega)
        rw [← HM.out] at hsame
        have Hsame := hid hsame
        have b1 : ¬ U < M := by omega
        have b2 : ¬ M + 1 < U := by omega
        clear hrows6 hro6 hsame
        go_wp2_with fail
        refine Hsame.out.mono ?_
        rintro e w7 ⟨bs, rfl, hb1, q1, hw7⟩
        have hb1' : bs = true := hb1.2 rfl
        subst hb1'
        have k7 : Kp [] w6 w7 := by rw [hw7]; exact (Kp.refl _ _).drewN _
        have k57 := k56.nil k7
        have hR67 := hR6.kept k7
        clear hw7 hb1 hR96
        go_wp2_with fail
        refine (Hby.out w7 k57).mono ?_
        rintro e w8 ⟨A8, c8, rfl, sy, k8, -⟩
        rw [← Hny.out]
        have hcv := run_text (P := Tryd.prog) Tryd.underlying25 Tryd.underlying5 Tryd.underlying9 sy ny c8 Hny.out.symm
        rw [← Hbb.out] at hcv
        have hext := Hext.out
        have k58 := k57.nil k8
        have hR68 := hR67.kept k8
        rcases hmore with hm1 | ⟨hm1, hm2, r, hr, hm3, hm4⟩
        · have hb1 : ((bb.size : Int) == (wb.size : Int)) = true := by rw [hm1]; simp
          go_wp2_with fail
          refine (Hbx.out w8 k58).mono ?_
          rintro e w9 ⟨A10, c10, rfl, sx9, k9, -, hx9, hx92⟩
          rw [← Hnx.out] at hx9 ⊢
          have k59 := k58.nil k9
          clear hcv hext hR68 hR67
          go_wp2_with fail
          refine (Hby.out w9 k59).mono ?_
          rintro e w10 ⟨A11, c11, rfl, -, k10, -⟩
          rw [← Hny.out]
          have k510 := k59.nil k10
          go_wp2_with fail
          refine (proved_any w10 (hT.kept (kr.nil k510)) A10 nx c10 X (sx9.kept k10) Hnx.out.symm hx9 hx92 (by omega) A11 ny c11 (by have := Hbs.out; omega)).mono ?_
          rintro e w11 ⟨us3, rest3, hrows3, rfl, k11⟩
          obtain ⟨h1, -⟩ := Hrows.out.one hrows3
          subst us3
          have hfin : decide ((ny : Int) ≤ sumLen us) = true := by rw [← Hbs.out]; exact decide_eq_true Hprov.out
          rw [hfin]
          have kz := (kr.nil k510).nil k11
          clear hrows3 hfin
          go_wp2_with fail
          go_ret
          exact ⟨rfl, kz⟩
        · have hb1 : ((bb.size : Int) == (wb.size : Int)) = false := by simp; omega
          subst hm2
          obtain ⟨ad6, hA6, Ar, c', a0, a1, a2, a3, a4, a5, a6⟩ := hR68 M r hr
          subst hA6
          have hlr : (bb.size : Int) ≤ (wb.size : Int) + r.len := hm3
          have hr0 : -5000000 ≤ r.len := by omega
          clear a4 hr
          go_wp2_with fail
          refine (Hbx.out w8 k58).mono ?_
          rintro e w9 ⟨A10, c10, rfl, sx9, k9, -, hx9, hx92⟩
          rw [← Hnx.out] at hx9 ⊢
          have k59 := k58.nil k9
          clear hcv hext hR68 hR67
          go_wp2_with fail
          refine (Hby.out w9 k59).mono ?_
          rintro e w10 ⟨A11, c11, rfl, -, k10, -⟩
          rw [← Hny.out]
          have k510 := k59.nil k10
          go_wp2_with fail
          refine (proved_any w10 (hT.kept (kr.nil k510)) A10 nx c10 X (sx9.kept k10) Hnx.out.symm hx9 hx92 (by omega) A11 ny c11 (by have := Hbs.out; omega)).mono ?_
          rintro e w11 ⟨us3, rest3, hrows3, rfl, k11⟩
          obtain ⟨h1, -⟩ := Hrows.out.one hrows3
          subst us3
          have hfin : decide ((ny : Int) ≤ sumLen us) = true := by rw [← Hbs.out]; exact decide_eq_true Hprov.out
          rw [hfin]
          have kz := (kr.nil k510).nil k11
          clear hrows3 hfin
          go_wp2_with fail
          go_ret
          exact ⟨rfl, kz⟩
end Go.Proofs.YtepeopfdenieeaaDoor
