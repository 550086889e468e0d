/- AuditPlays: any pieces are noted and released as the document says, into sinks of any room that crash anywhere. -/
import Derived.Test.YtepeopfdenieeaaDoorSimLaw
import Derived.Test.YtepeopfdenieeaaDoorAuditProves
import Derived.Deep.DeepCutAuto
namespace Go.Proofs.YtepeopfdenieeaaDoor
open Go Go.RowKit

/-- The document's audit lies whole, beside all that was there. -/
theorem ref_trio {w wa wb : World} {s t : RK} (h1 : RefAt wa w.heap.size s) (k1 : Kp [] w wa) (h2 : RefAt wb wa.heap.size t) (k2 : Kp [] wa wb) :
    ∃ y yl yo, Value.pointer (some ⟨wb.heap.size, 0, none⟩) = .pointer (some ⟨y, 0, none⟩) ∧ RAuditAt (wb.alloc (.cells #[.pointer (some ⟨w.heap.size, 0, none⟩), .pointer (some ⟨wa.heap.size, 0, none⟩), .int .i64 0] 59)) y yl yo ⟨s, t, 0⟩ ∧
      w.heap.size ≤ yl ∧ w.heap.size ≤ yo ∧ w.heap.size ≤ y ∧ Kp [] w (wb.alloc (.cells #[.pointer (some ⟨w.heap.size, 0, none⟩), .pointer (some ⟨wa.heap.size, 0, none⟩), .int .i64 0] 59)) := by
  have hl : w.heap.size < wa.heap.size := by
    obtain ⟨v, h, _⟩ := h1
    exact h.lt
  have k3 : Kp [] wb (wb.alloc (.cells #[.pointer (some ⟨w.heap.size, 0, none⟩), .pointer (some ⟨wa.heap.size, 0, none⟩), .int .i64 0] 59)) := (Kp.refl _ _).alloc _
  exact ⟨wb.heap.size, w.heap.size, wa.heap.size, rfl, ⟨Cells.fresh _ _ _, h1.kept (k2.nil k3), h2.kept k3, by omega⟩, Nat.le_refl _, by omega, by have := k2.size; omega, (k1.nil k2).nil k3⟩

theorem RAuditAt.beside {w w' : World} {a al ao y yl yo : Nat} {s : AK} {t : RAK} (h : RAuditAt w y yl yo t) (ha : AuditAt w a al ao s) (hap : ∀ x ∈ [y, yl, yo], x ∉ [a, al, ao]) (k : Kp [a, al, ao] w w') : RAuditAt w' y yl yo t := by
  have hb : ∀ x ∈ [a, al, ao], ∃ t cs, Cells w x t cs ∧ 5 ≠ t := by
    intro x hx
    simp only [List.mem_cons, List.not_mem_nil, or_false] at hx
    rcases hx with rfl | rfl | rfl
    · exact ⟨_, _, ha.c, by decide⟩
    · obtain ⟨cs, hcs, _⟩ := sink_no ha.l; exact ⟨_, _, hcs, by decide⟩
    · obtain ⟨cs, hcs, _⟩ := sink_no ha.o; exact ⟨_, _, hcs, by decide⟩
  obtain ⟨v1, l1, l2⟩ := h.l
  obtain ⟨v2, o1, o2⟩ := h.o
  exact ⟨h.c.keep k (hap _ (by simp)), ⟨v1, l1.keep k (hap _ (by simp)), OwnN.keep_blocks (s := 1) l2 hb k⟩, ⟨v2, o1.keep k (hap _ (by simp)), OwnN.keep_blocks (s := 1) o2 hb k⟩, h.ne⟩
theorem AuditAt.beside {w w' : World} {a al ao y yl yo : Nat} {s : AK} {t : RAK} (h : AuditAt w a al ao s) (hr : RAuditAt w y yl yo t) (hap : ∀ x ∈ [y, yl, yo], x ∉ [a, al, ao]) (k : Kp [y, yl, yo] w w') : AuditAt w' a al ao s := by
  have hb : ∀ x ∈ [y, yl, yo], ∀ cs, ¬ Cells w x 5 cs := by
    intro x hx
    simp only [List.mem_cons, List.not_mem_nil, or_false] at hx
    rcases hx with rfl | rfl | rfl
    · exact hr.c.not (by decide)
    · obtain ⟨cs, hcs, _⟩ := hr.l.cells; exact hcs.not (by decide)
    · obtain ⟨cs, hcs, _⟩ := hr.o.cells; exact hcs.not (by decide)
  have hn : ∀ z ∈ [a, al, ao], z ∉ [y, yl, yo] := fun z hz hm => hap z hm hz
  exact ⟨h.c.keep k (hn _ (by simp)), h.l.keep k (hn _ (by simp)) hb, h.o.keep k (hn _ (by simp)) hb, h.ne⟩
theorem rec_of_own {w : World} {r : Rec} {A : Option Addr} {c : Nat} (h : OwnN w 9 1 (.slice A r.holes.length c) r.holes.length (r.holes.map .string)) : RecIs w r (.agg #[.int .i64 r.doc, .int .i64 r.out, .int .i64 r.len, .slice A r.holes.length c]) := by
  obtain ⟨A', c', e1, sp, g1, g2, -⟩ := h.shape
  injection e1 with e1 e2 e3
  subst e1 e3
  exact ⟨A, c, rfl, sp, g1, g2⟩
theorem ref_text {w : World} {a : Nat} {s : RK} (h : RefAt w a s) : ∃ R c, (∀ wx, Kp [] w wx → wx.cell? ⟨a, 0, none⟩ = some (.slice R s.xs.length c)) ∧ ∀ wx, Kp [] w wx → (convert 25 9 (.slice R s.xs.length c)).run Tryd.prog wx = .ok (.string ⟨s.xs.toArray⟩) wx := by
  obtain ⟨v, h1, h2⟩ := h
  obtain ⟨R, c, rfl, sp, -⟩ := h2.shape
  exact ⟨R, c, fun wx k => (h1.keep k (by simp)).cell 0, fun wx k => run_text Tryd.underlying25 Tryd.underlying5 Tryd.underlying9 (sp.kept k) _ c rfl⟩

set_option maxRecDepth 100000 in
set_option maxHeartbeats 16000000 in
theorem aplays_any (w : World) (hT : Tabs w) (t0 t1 t2 t3 : Int) (_h0 : -9223372036854775808 ≤ t0 ∧ t0 ≤ 9223372036854775807) (h1 : -9223372036854775808 ≤ t1 ∧ t1 ≤ 9223372036854775807) (_h2 : -9223372036854775808 ≤ t2 ∧ t2 ≤ 9223372036854775807) (h3 : -9223372036854775808 ≤ t3 ∧ t3 ≤ 9223372036854775807)
    (A : Option Addr) (n c : Nat) (ps : List Pc) (hs : PiecesAt w A ps) (hn : ps.length = n) (_hc : n ≤ c) (_hc2 : c ≤ 9223372036854775807) (hin : ∀ p ∈ ps, RecIn p.r) :
    Calls Tryd.prog 9 #[.agg #[.int .i64 t0, .int .i64 t1, .int .i64 t2, .int .i64 t3], .slice A n c] w (YesPost w) := by
  have Hn := hid hn
  have Hin := hid hin
  clear hn hin
  obtain ⟨w0, hw0, D0, K0⟩ : ∃ w0, w0 = w.alloc (.cells #[.int .i64 t0, .int .i64 t1, .int .i64 t2, .int .i64 t3] 49) ∧ Cells w0 w.heap.size 49 [.int .i64 t0, .int .i64 t1, .int .i64 t2, .int .i64 t3] ∧ Kp [] w w0 := ⟨_, rfl, Cells.fresh _ _ _, (Kp.refl _ _).alloc _⟩
  obtain ⟨S, hS⟩ : ∃ S, S = w.heap.size := ⟨_, rfl⟩
  rw [← hS] at D0
  have HW := hid (And.intro hw0 hS)
  clear hw0 hS
  have hok : (AK.mk (SK.make t0 t1) (SK.make t2 t3) 0).Ok := ⟨SK.make_ok _ _ h1.2, SK.make_ok _ _ h3.2⟩
  go_enter Tryd.func9, Tryd.ntmps9
  go_wp2_with fail
  rw [← HW.out.1, ← HW.out.2]
  refine (shown19_any _ (hT.kept K0)).mono ?_
  rintro e w1 ⟨rfl, k1⟩
  have D1 := D0.keep k1 (by simp)
  have d0 := D1.cell 0
  have d1 := D1.cell 1
  simp only [List.getElem?_cons_zero, List.getElem?_cons_succ] at d0 d1
  go_wp2_with fail
  refine (new_any w1 t0 t1).mono ?_
  rintro e w2 ⟨rfl, s2, k2⟩
  have D2 := D1.keep k2 (by simp)
  have d2 := D2.cell 2
  have d3 := D2.cell 3
  simp only [List.getElem?_cons_zero, List.getElem?_cons_succ] at d2 d3
  go_wp2_with fail
  refine (new_any w2 t2 t3).mono ?_
  rintro e w3 ⟨rfl, s3, k3⟩
  go_wp2_with fail
  refine (anew_any w3 w1.heap.size w2.heap.size).mono ?_
  rintro e w4 ⟨rfl, h4, k4⟩
  obtain ⟨ha, kw, hlt1, hlt2⟩ := sink_pair s2 k2 s3 k3 h4 k4
  have kw4 : Kp [] w w4 := (K0.nil k1).nil kw
  have hsz : w.heap.size ≤ w1.heap.size := (K0.nil k1).size
  have D4 := D0.keep (k1.nil kw) (by simp)
  obtain ⟨al, hal⟩ : ∃ al, al = w1.heap.size := ⟨_, rfl⟩
  obtain ⟨ao, hao⟩ : ∃ ao, ao = w2.heap.size := ⟨_, rfl⟩
  obtain ⟨a, haa⟩ : ∃ a, a = w3.heap.size := ⟨_, rfl⟩
  have htr : Trio w a al ao := ⟨by omega, by omega, by omega⟩
  rw [← hal, ← hao, ← haa] at ha
  rw [← hal] at hlt1
  rw [← hao] at hlt1 hlt2
  rw [← haa] at hlt2
  rw [← hal, ← hao, ← haa]
  clear s2 s3 h4 k2 k3 k4 kw k1 hal hao haa hsz D0 D1 D2 d0 d1 d2 d3 h1 h3
  have HS : Hid (∀ wx, Kp [] w4 wx → wx.cell? ⟨S, 0, none⟩ = some (.int .i64 t0) ∧ wx.cell? ⟨S, 1, none⟩ = some (.int .i64 t1) ∧ wx.cell? ⟨S, 2, none⟩ = some (.int .i64 t2) ∧ wx.cell? ⟨S, 3, none⟩ = some (.int .i64 t3)) := hid (fun wx k => by
    have D := D4.keep k (by simp)
    exact ⟨D.cell 0, D.cell 1, D.cell 2, D.cell 3⟩)
  go_upto_region 7 with fail
  go_cut [9] (fun v wx => ∃ y yl yo, v = .pointer (some ⟨y, 0, none⟩) ∧ RAuditAt wx y yl yo ⟨⟨[], min (max t0 0) 1048576, t1, false⟩, ⟨[], min (max t2 0) 1048576, t3, false⟩, 0⟩ ∧ w4.heap.size ≤ yl ∧ w4.heap.size ≤ yo ∧ w4.heap.size ≤ y ∧ Kp [] w4 wx)
  case first =>
    have hkD : Kp [] w4 w4.drew := (Kp.refl _ _).drew
    refine wp_region_noPanic ?_
    refine wp_region_held (S := fun wx => wx.cell? ⟨S, 0, none⟩ = some (.int .i64 t0) ∧ wx.cell? ⟨S, 1, none⟩ = some (.int .i64 t1) ∧ wx.cell? ⟨S, 2, none⟩ = some (.int .i64 t2) ∧ wx.cell? ⟨S, 3, none⟩ = some (.int .i64 t3)) (by kernel_rfl) ?_
    have hS0 := HS.out _ hkD
    refine wpAnyH_take (i := 0) (oi := ⟨some 41, Op.fieldAddr 49 (Operand.tmp 2) 0, 0, _, _, none⟩) (v := ?_) rfl (by kernel_rfl) (by kernel_rfl) (by kernel_rfl) (fun _ _ _ h => h) (Or.inl ⟨by rfl, ?_⟩) (by exact hS0) ?_
    rotate_left
    · (intro w hSw; (try dsimp only at hSw); go_simp; (try with_reducible rfl))
    try simp only [Act.put, List.setIfInBounds_toArray, List.set_cons_zero, List.set_cons_succ]
    refine wpAnyH_take (i := 1) (oi := ⟨some 42, Op.load 3 (Operand.tmp 41), 3, _, _, none⟩) (v := ?_) rfl (by kernel_rfl) (by kernel_rfl) (by kernel_rfl) (fun _ _ _ h => h) (Or.inl ⟨by rfl, ?_⟩) (by exact hS0) ?_
    rotate_left
    · (intro w hSw; (try dsimp only at hSw); go_simp; (try with_reducible rfl))
    try simp only [Act.put, List.setIfInBounds_toArray, List.set_cons_zero, List.set_cons_succ]
    refine wpAnyH_take (i := 2) (oi := ⟨some 43, Op.fieldAddr 49 (Operand.tmp 2) 1, 0, _, _, none⟩) (v := ?_) rfl (by kernel_rfl) (by kernel_rfl) (by kernel_rfl) (fun _ _ _ h => h) (Or.inl ⟨by rfl, ?_⟩) (by exact hS0) ?_
    rotate_left
    · (intro w hSw; (try dsimp only at hSw); go_simp; (try with_reducible rfl))
    try simp only [Act.put, List.setIfInBounds_toArray, List.set_cons_zero, List.set_cons_succ]
    refine wpAnyH_take (i := 3) (oi := ⟨some 44, Op.load 3 (Operand.tmp 43), 3, _, _, none⟩) (v := ?_) rfl (by kernel_rfl) (by kernel_rfl) (by kernel_rfl) (fun _ _ _ h => h) (Or.inl ⟨by rfl, ?_⟩) (by exact hS0) ?_
    rotate_left
    · (intro w hSw; (try dsimp only at hSw); go_simp; (try with_reducible rfl))
    try simp only [Act.put, List.setIfInBounds_toArray, List.set_cons_zero, List.set_cons_succ]
    refine wpAnyH_take (i := 5) (oi := ⟨some 46, Op.fieldAddr 49 (Operand.tmp 2) 2, 0, _, _, none⟩) (v := ?_) rfl (by kernel_rfl) (by kernel_rfl) (by kernel_rfl) (fun _ _ _ h => h) (Or.inl ⟨by rfl, ?_⟩) (by exact hS0) ?_
    rotate_left
    · (intro w hSw; (try dsimp only at hSw); go_simp; (try with_reducible rfl))
    try simp only [Act.put, List.setIfInBounds_toArray, List.set_cons_zero, List.set_cons_succ]
    refine wpAnyH_take (i := 6) (oi := ⟨some 47, Op.load 3 (Operand.tmp 46), 3, _, _, none⟩) (v := ?_) rfl (by kernel_rfl) (by kernel_rfl) (by kernel_rfl) (fun _ _ _ h => h) (Or.inl ⟨by rfl, ?_⟩) (by exact hS0) ?_
    rotate_left
    · (intro w hSw; (try dsimp only at hSw); go_simp; (try with_reducible rfl))
    try simp only [Act.put, List.setIfInBounds_toArray, List.set_cons_zero, List.set_cons_succ]
    refine wpAnyH_take (i := 7) (oi := ⟨some 48, Op.fieldAddr 49 (Operand.tmp 2) 3, 0, _, _, none⟩) (v := ?_) rfl (by kernel_rfl) (by kernel_rfl) (by kernel_rfl) (fun _ _ _ h => h) (Or.inl ⟨by rfl, ?_⟩) (by exact hS0) ?_
    rotate_left
    · (intro w hSw; (try dsimp only at hSw); go_simp; (try with_reducible rfl))
    try simp only [Act.put, List.setIfInBounds_toArray, List.set_cons_zero, List.set_cons_succ]
    refine wpAnyH_take (i := 8) (oi := ⟨some 49, Op.load 3 (Operand.tmp 48), 3, _, _, none⟩) (v := ?_) rfl (by kernel_rfl) (by kernel_rfl) (by kernel_rfl) (fun _ _ _ h => h) (Or.inl ⟨by rfl, ?_⟩) (by exact hS0) ?_
    rotate_left
    · (intro w hSw; (try dsimp only at hSw); go_simp; (try with_reducible rfl))
    try simp only [Act.put, List.setIfInBounds_toArray, List.set_cons_zero, List.set_cons_succ]
    refine wpAnyH_ready (rs := [4]) (by kernel_rfl) (by simp) ?_
    refine AllReadyH.cons (o := ⟨some 45, Op.call { callee := Callee.value (Operand.func 27), args := #[Operand.tmp 42, Operand.tmp 44], argTypes := #[3, 3] }, 56, _, _, none⟩) rfl (fun K hK => ?_) AllReadyH.nil
    go_simp
    refine (rnew_any _ t0 t1).mono ?_
    rintro e wa ⟨rfl, ra, ka⟩
    have kA := hkD.nil ka
    have hS1 := HS.out _ kA
    refine hK.out _ _ (by exact hS1) (fun _ => ?_)
    clear hK K
    try simp only [Act.put, List.setIfInBounds_toArray, List.set_cons_zero, List.set_cons_succ]
    refine wpAnyH_ready (rs := [9]) (by kernel_rfl) (by simp) ?_
    refine AllReadyH.cons (o := ⟨some 50, Op.call { callee := Callee.value (Operand.func 27), args := #[Operand.tmp 47, Operand.tmp 49], argTypes := #[3, 3] }, 56, _, _, none⟩) rfl (fun K hK => ?_) AllReadyH.nil
    go_simp
    refine (rnew_any _ t2 t3).mono ?_
    rintro e wb ⟨rfl, rb, kb⟩
    have kB := kA.nil kb
    have hS2 := HS.out _ kB
    refine hK.out _ _ (by exact hS2) (fun _ => ?_)
    clear hK K
    try simp only [Act.put, List.setIfInBounds_toArray, List.set_cons_zero, List.set_cons_succ]
    refine wpAnyH_take (i := 10) (oi := ⟨some 51, Op.build 59 #[(0, Operand.tmp 45), (1, Operand.tmp 50)], 59, _, _, none⟩) (v := ?_) rfl (by kernel_rfl) (by kernel_rfl) (by kernel_rfl) (fun _ _ _ h => h) (Or.inl ⟨by rfl, ?_⟩) (by exact hS2) ?_
    rotate_left
    · (intro w hSw; (try dsimp only at hSw); go_simp; (try with_reducible rfl))
    try simp only [Act.put, List.setIfInBounds_toArray, List.set_cons_zero, List.set_cons_succ]
    refine wpAnyH_ready (rs := [11]) (by kernel_rfl) (by simp) ?_
    refine AllReadyH.cons (o := ⟨some 52, Op.box 59 (Operand.tmp 51), 55, _, _, none⟩) rfl (fun K hK => ?_) AllReadyH.nil
    go_simp
    have kC := kB.nil ((Kp.refl [] wb).alloc (.cells #[.pointer (some ⟨w4.heap.size, 0, none⟩), .pointer (some ⟨wa.heap.size, 0, none⟩), .int .i64 0] 59))
    have hS3 := HS.out _ kC
    refine hK.out _ _ (by exact hS3) (fun _ => ?_)
    clear hK K
    try simp only [Act.put, List.setIfInBounds_toArray, List.set_cons_zero, List.set_cons_succ]
    refine wpAnyH_take (i := 12) (oi := ⟨some 9, Op.assign (Operand.tmp 52), 55, _, _, none⟩) (v := ?_) rfl (by kernel_rfl) (by kernel_rfl) (by kernel_rfl) (fun _ _ _ h => h) (Or.inl ⟨by rfl, ?_⟩) (by exact hS3) ?_
    rotate_left
    · (intro w hSw; (try dsimp only at hSw); go_simp; (try with_reducible rfl))
    try simp only [Act.put, List.setIfInBounds_toArray, List.set_cons_zero, List.set_cons_succ]
    refine wpAnyH_done (by kernel_rfl) ?_ _
    refine NoPanic.normal ?_
    go_wp2_with fail
    go_meet
    obtain ⟨y, yl, yo, e1, e2, e3, e4, e5, e6⟩ := ref_trio (w := w4.drew) ra ka rb kb
    exact ⟨y, yl, yo, e1, e2, e3, e4, e5, hkD.nil e6⟩
  case rest =>
    obtain ⟨y, yl, yo, rfl, hr, hy1, hy2, hy3, kc⟩ := hcut
    have hrok := RAK.make_ok t0 t1 t2 t3
    have hsim : ASim t1 t3 ⟨SK.make t0 t1, SK.make t2 t3, 0⟩ ⟨⟨[], min (max t0 0) 1048576, t1, false⟩, ⟨[], min (max t2 0) 1048576, t3, false⟩, 0⟩ := ⟨Sim.make _ _, Sim.make _ _, rfl⟩
    have ha' := ha.kept kc
    have kwc := kw4.nil kc
    have haw : a < w4.heap.size := ha.c.lt
    have htr2 : Trio w y yl yo := ⟨by have := kw4.size; omega, by have := kw4.size; omega, by have := kw4.size; omega⟩
    have hapart : ∀ x ∈ [y, yl, yo], x ∉ [a, al, ao] := by
      intro x hx hm
      simp at hx hm
      omega
    have Hapart := hid hapart
    clear hapart ha kc HS D4 hy1 hy2 hy3 kw4 haw
    go_wp2_with fail
    go_loopw [10] (fun i wr => ∃ (k : Nat) (s : AK) (t : RAK), k ≤ n ∧ k ≤ 40 ∧ i = .int .i64 k ∧ AuditAt wr a al ao s ∧ RAuditAt wr y yl yo t ∧ ASim t1 t3 s t ∧ s.Ok ∧ t.Ok ∧ Kp [] w wr) (fun i _ => n - (intOf i).toNat)
    case atStart => exact ⟨0, _, _, by omega, by omega, rfl, ha', hr, hsim, hok, hrok, kwc⟩
    case round =>
      clear ha' hr hsim hok hrok kwc
      obtain ⟨k, s, t, hk, hk40, rfl, ha, hr, hsim, hok, hrok, kr⟩ := hrel
      by_cases hlt : k < n ∧ k < 40
      · obtain ⟨hlt, hlt40⟩ := hlt
        have hkl : k < ps.length := by rw [Hn.out]; exact hlt
        obtain ⟨ad, hA, hpc⟩ := hs k _ (List.getElem?_eq_getElem hkl)
        subst hA
        obtain ⟨p, hp⟩ : ∃ p, p = ps[k] := ⟨_, rfl⟩
        have hz := (Hin.out _ (List.getElem_mem hkl)).sizes
        rw [← hp] at hpc hz
        clear hp hkl
        obtain ⟨Ap, cp, Bq, dq, hcells, hpis⟩ := piece_cells hpc
        have hbw0 := ((hpis w (Kp.refl _ _)).parts).2.2.2.1.take8 100
        obtain ⟨c0, c1, c2, c3, c4, c5⟩ := hcells wr kr
        have hpi := hpis wr kr
        clear hcells hpis hpc
        go_wp2_with fail
        refine (fewp_own wr p _ _ _ _ hpi hz).mono ?_
        rintro e w5 ⟨Aq, cq, rfl, q1, q3, q4, q5, q6, k5⟩
        have hbw : Span w Bq (u8s (fewP p).b) := hbw0
        clear hbw0
        have hfs := fewP_sizes p
        have hfb := fewP_b p
        obtain ⟨f, hf⟩ : ∃ f, f = fewP p := ⟨_, rfl⟩
        rw [← hf] at q1 q4 q5 hfs hfb hbw ⊢
        clear hf hpi c0 c1 c2 c3 c4 c5
        obtain ⟨nb, hnb⟩ : ∃ nb, nb = f.b.length := ⟨_, rfl⟩
        rw [← hnb] at q5 ⊢
        obtain ⟨w6, hw6, E6, k6⟩ : ∃ w6, w6 = w5.alloc (.cells #[.int .i64 f.r.doc, .int .i64 f.r.out, .int .i64 f.r.len, .slice Aq f.r.holes.length cq, .slice Bq nb dq, .bool f.right] 61) ∧
            Cells w6 w5.heap.size 61 [.int .i64 f.r.doc, .int .i64 f.r.out, .int .i64 f.r.len, .slice Aq f.r.holes.length cq, .slice Bq nb dq, .bool f.right] ∧ Kp [] w5 w6 := ⟨_, rfl, Cells.fresh _ _ _, (Kp.refl _ _).alloc _⟩
        have hPn : ∀ x ∈ [a, al, ao, y, yl, yo], w5.heap.size ≠ x := by
          intro x hx
          have h1 := ha.c.lt
          have h2 := hr.c.lt
          have h3 := ha.l.lt
          have h4 := ha.o.lt
          obtain ⟨cs, h5, _⟩ := hr.l.cells
          have h5 := h5.lt
          obtain ⟨cs, h6, _⟩ := hr.o.cells
          have h6 := h6.lt
          have h7 := k5.size
          simp at hx
          omega
        have hR6 : RecIs w6 f.r (.agg #[.int .i64 f.r.doc, .int .i64 f.r.out, .int .i64 f.r.len, .slice Aq f.r.holes.length cq]) := by
          obtain ⟨A', c', e1, sp, g1, -, -⟩ := q1.shape
          injection e1 with e1 e2 e3
          subst e1 e3
          exact ⟨Aq, cq, rfl, sp.kept k6, g1, q3⟩
        have hT6 := OwnN.kept (s := 1) q1 k6
        have ha6 := ha.kept (k5.nil k6)
        have hr6 := hr.kept (k5.nil k6)
        have kw6 := (kr.nil k5).nil k6
        have HW6 := hid hw6
        have Hnb := hid hnb
        have hnb9 : nb ≤ 100 := by have := Hnb.out; omega
        obtain ⟨P, hP⟩ : ∃ P, P = w5.heap.size := ⟨_, rfl⟩
        rw [← hP] at E6 hPn
        have HP := hid hP
        have HPn := hid hPn
        clear hw6 hnb hP q1 q4 hPn ha hr
        go_upto_region 14 with fail
        rw [← HW6.out, ← HP.out]
        have hst := hsim.release f.r f.b
        have hok8 := hok.release f.r f.b (by have := Hnb.out; omega)
        have hrok8 := hrok.release f.r f.b (by have := Hnb.out; omega)
        obtain ⟨s8, hs8⟩ : ∃ s8, s8 = (s.release f.r f.b).1 := ⟨_, rfl⟩
        obtain ⟨t8, ht8⟩ : ∃ t8, t8 = (t.release f.r f.b).1 := ⟨_, rfl⟩
        obtain ⟨e8, he8⟩ : ∃ e8, e8 = (s.release f.r f.b).2 := ⟨_, rfl⟩
        have he9 : (t.release f.r f.b).2 = e8 := by rw [hst.1, he8]
        have hst2 := hst.2
        rw [← hs8, ← ht8] at hst2
        rw [← hs8] at hok8
        rw [← ht8] at hrok8
        have Hs8 := hid hs8
        have Ht8 := hid ht8
        have He8 := hid he8
        have He9 := hid he9
        clear hst hs8 ht8 he8 he9
        go_cut [119] (fun v wx => v = .bool false ∧ AuditAt wx a al ao s8 ∧ RAuditAt wx y yl yo t8 ∧ Kp [] w wx)
        case first =>
          have hkD : Kp [] w6 w6.drew := (Kp.refl _ _).drew
          have kD6 := kw6.nil hkD
          have HS : Hid (∀ wx, Cells wx P 61 [.int .i64 f.r.doc, .int .i64 f.r.out, .int .i64 f.r.len, .slice Aq f.r.holes.length cq, .slice Bq nb dq, .bool f.right] → wx.cell? ⟨P, 0, none⟩ = some (.int .i64 f.r.doc) ∧ wx.cell? ⟨P, 1, none⟩ = some (.int .i64 f.r.out) ∧ wx.cell? ⟨P, 2, none⟩ = some (.int .i64 f.r.len) ∧ wx.cell? ⟨P, 3, none⟩ = some (.slice Aq f.r.holes.length cq) ∧ wx.cell? ⟨P, 4, none⟩ = some (.slice Bq nb dq)) :=
            hid (fun wx D => ⟨D.cell 0, D.cell 1, D.cell 2, D.cell 3, D.cell 4⟩)
          have ED := E6.keep hkD (by simp)
          have aD := ha6.kept hkD
          have rD := hr6.kept hkD
          have TD := hT6.kept hkD
          refine wp_region_noPanic ?_
          refine wp_region_held (S := fun wx => wx.cell? ⟨P, 0, none⟩ = some (.int .i64 f.r.doc) ∧ wx.cell? ⟨P, 1, none⟩ = some (.int .i64 f.r.out) ∧ wx.cell? ⟨P, 2, none⟩ = some (.int .i64 f.r.len) ∧ wx.cell? ⟨P, 3, none⟩ = some (.slice Aq f.r.holes.length cq) ∧ wx.cell? ⟨P, 4, none⟩ = some (.slice Bq nb dq)) (by kernel_rfl) ?_
          have hS0 := HS.out _ ED
          refine wpAnyH_take (i := 0) (oi := ⟨some 70, Op.move (Operand.tmp 8), 53, _, _, none⟩) (v := ?_) rfl (by kernel_rfl) (by kernel_rfl) (by kernel_rfl) (fun _ _ _ h => h) (Or.inl ⟨by rfl, ?_⟩) (by exact hS0) ?_
          rotate_left
          · (intro w hSw; (try dsimp only at hSw); go_simp; (try with_reducible rfl))
          try simp only [Act.put, List.setIfInBounds_toArray, List.set_cons_zero, List.set_cons_succ]
          refine wpAnyH_take (i := 1) (oi := ⟨some 71, Op.fieldAddr 61 (Operand.tmp 11) 0, 0, _, _, none⟩) (v := ?_) rfl (by kernel_rfl) (by kernel_rfl) (by kernel_rfl) (fun _ _ _ h => h) (Or.inl ⟨by rfl, ?_⟩) (by exact hS0) ?_
          rotate_left
          · (intro w hSw; (try dsimp only at hSw); go_simp; (try with_reducible rfl))
          try simp only [Act.put, List.setIfInBounds_toArray, List.set_cons_zero, List.set_cons_succ]
          refine wpAnyH_take (i := 2) (oi := ⟨some 72, Op.load 24 (Operand.tmp 71), 24, _, _, none⟩) (v := ?_) rfl (by kernel_rfl) (by kernel_rfl) (by kernel_rfl) (fun _ _ _ h => h) (Or.inl ⟨by rfl, ?_⟩) (by exact hS0) ?_
          rotate_left
          · (intro w hSw; (try dsimp only at hSw); go_simp; (try with_reducible rfl))
          try simp only [Act.put, List.setIfInBounds_toArray, List.set_cons_zero, List.set_cons_succ]
          refine wpAnyH_take (i := 3) (oi := ⟨some 73, Op.fieldAddr 61 (Operand.tmp 11) 1, 0, _, _, none⟩) (v := ?_) rfl (by kernel_rfl) (by kernel_rfl) (by kernel_rfl) (fun _ _ _ h => h) (Or.inl ⟨by rfl, ?_⟩) (by exact hS0) ?_
          rotate_left
          · (intro w hSw; (try dsimp only at hSw); go_simp; (try with_reducible rfl))
          try simp only [Act.put, List.setIfInBounds_toArray, List.set_cons_zero, List.set_cons_succ]
          refine wpAnyH_take (i := 4) (oi := ⟨some 74, Op.load 25 (Operand.tmp 73), 25, _, _, none⟩) (v := ?_) rfl (by kernel_rfl) (by kernel_rfl) (by kernel_rfl) (fun _ _ _ h => h) (Or.inl ⟨by rfl, ?_⟩) (by exact hS0) ?_
          rotate_left
          · (intro w hSw; (try dsimp only at hSw); go_simp; (try with_reducible rfl))
          try simp only [Act.put, List.setIfInBounds_toArray, List.set_cons_zero, List.set_cons_succ]
          refine wpAnyH_take (i := 6) (oi := ⟨some 76, Op.move (Operand.tmp 9), 55, _, _, none⟩) (v := ?_) rfl (by kernel_rfl) (by kernel_rfl) (by kernel_rfl) (fun _ _ _ h => h) (Or.inl ⟨by rfl, ?_⟩) (by exact hS0) ?_
          rotate_left
          · (intro w hSw; (try dsimp only at hSw); go_simp; (try with_reducible rfl))
          try simp only [Act.put, List.setIfInBounds_toArray, List.set_cons_zero, List.set_cons_succ]
          refine wpAnyH_take (i := 7) (oi := ⟨some 77, Op.fieldAddr 61 (Operand.tmp 11) 0, 0, _, _, none⟩) (v := ?_) rfl (by kernel_rfl) (by kernel_rfl) (by kernel_rfl) (fun _ _ _ h => h) (Or.inl ⟨by rfl, ?_⟩) (by exact hS0) ?_
          rotate_left
          · (intro w hSw; (try dsimp only at hSw); go_simp; (try with_reducible rfl))
          try simp only [Act.put, List.setIfInBounds_toArray, List.set_cons_zero, List.set_cons_succ]
          refine wpAnyH_take (i := 8) (oi := ⟨some 78, Op.load 24 (Operand.tmp 77), 24, _, _, none⟩) (v := ?_) rfl (by kernel_rfl) (by kernel_rfl) (by kernel_rfl) (fun _ _ _ h => h) (Or.inl ⟨by rfl, ?_⟩) (by exact hS0) ?_
          rotate_left
          · (intro w hSw; (try dsimp only at hSw); go_simp; (try with_reducible rfl))
          try simp only [Act.put, List.setIfInBounds_toArray, List.set_cons_zero, List.set_cons_succ]
          refine wpAnyH_take (i := 9) (oi := ⟨some 79, Op.fieldAddr 61 (Operand.tmp 11) 1, 0, _, _, none⟩) (v := ?_) rfl (by kernel_rfl) (by kernel_rfl) (by kernel_rfl) (fun _ _ _ h => h) (Or.inl ⟨by rfl, ?_⟩) (by exact hS0) ?_
          rotate_left
          · (intro w hSw; (try dsimp only at hSw); go_simp; (try with_reducible rfl))
          try simp only [Act.put, List.setIfInBounds_toArray, List.set_cons_zero, List.set_cons_succ]
          refine wpAnyH_take (i := 10) (oi := ⟨some 80, Op.load 25 (Operand.tmp 79), 25, _, _, none⟩) (v := ?_) rfl (by kernel_rfl) (by kernel_rfl) (by kernel_rfl) (fun _ _ _ h => h) (Or.inl ⟨by rfl, ?_⟩) (by exact hS0) ?_
          rotate_left
          · (intro w hSw; (try dsimp only at hSw); go_simp; (try with_reducible rfl))
          try simp only [Act.put, List.setIfInBounds_toArray, List.set_cons_zero, List.set_cons_succ]
          refine wpAnyH_ready (rs := [5]) (by kernel_rfl) (by simp) ?_
          refine AllReadyH.cons (o := ⟨some 75, Op.call { callee := Callee.value (Operand.func 29), args := #[Operand.tmp 70, Operand.tmp 72, Operand.tmp 74], argTypes := #[53, 24, 25] }, 27, _, _, none⟩) rfl (fun K hK => ?_) AllReadyH.nil
          go_simp
          refine (release_any _ (hT.kept kD6) a al ao s aD hok _ f.r (rec_of_own TD) (fun x hx => Nat.le_trans (hfs x hx) (by omega)) Bq nb dq f.b (hbw.kept kD6) Hnb.out.symm q5 (by omega)).mono ?_
          rintro e wa ⟨rfl, aa, ka⟩
          rw [← He8.out]
          rw [← Hs8.out] at aa
          have Ea := ED.keep ka (fun hm => HPn.out P (by simp at hm ⊢; omega) rfl)
          have ra := rD.beside aD Hapart.out ka
          have Ta := TD.keep_blocks (fun x hx => by obtain ⟨t, cs, a, _, b⟩ := audit_blocks aD x hx; exact ⟨t, cs, a, b⟩) ka
          have kwa := htr.kp kD6 ka
          have hS1 := HS.out _ Ea
          refine hK.out _ _ (by exact hS1) (fun _ => ?_)
          clear hK K
          try simp only [Act.put, List.setIfInBounds_toArray, List.set_cons_zero, List.set_cons_succ]
          refine wpAnyH_ready (rs := [11]) (by kernel_rfl) (by simp) ?_
          refine AllReadyH.cons (o := ⟨some 81, Op.call { callee := Callee.value (Operand.func 30), args := #[Operand.tmp 76, Operand.tmp 78, Operand.tmp 80], argTypes := #[55, 24, 25] }, 27, _, _, none⟩) rfl (fun K hK => ?_) AllReadyH.nil
          go_simp
          refine (rrelease_any wa y yl yo t ra hrok _ f.r (rec_of_own Ta) (fun x hx => Nat.le_trans (hfs x hx) (by omega)) Bq nb dq f.b (hbw.kept kwa) Hnb.out.symm q5 (by omega)).mono ?_
          rintro e wb ⟨rfl, rb, kb⟩
          rw [He9.out]
          rw [← Ht8.out] at rb
          have Eb := Ea.keep kb (fun hm => HPn.out P (by simp at hm ⊢; omega) rfl)
          have ab := aa.beside ra Hapart.out kb
          have kwb := htr2.kp kwa kb
          have hS2 := HS.out _ Eb
          refine hK.out _ _ (by exact hS2) (fun _ => ?_)
          clear hK K
          try simp only [Act.put, List.setIfInBounds_toArray, List.set_cons_zero, List.set_cons_succ]
          refine wpAnyH_take (i := 12) (oi := ⟨some 82, Op.binOp BinOp.neq 27 (Operand.tmp 75) (Operand.tmp 81) 27, 4, _, _, none⟩) (v := ?_) rfl (by kernel_rfl) (by kernel_rfl) (by kernel_rfl) (fun _ _ _ h => h) (Or.inl ⟨by rfl, ?_⟩) (by exact hS2) ?_
          rotate_left
          · (intro w hSw; (try dsimp only at hSw); go_simp; (try with_reducible rfl))
          try simp only [Act.put, List.setIfInBounds_toArray, List.set_cons_zero, List.set_cons_succ]
          refine wpAnyH_take (i := 13) (oi := ⟨some 83, Op.move (Operand.tmp 82), 4, _, _, none⟩) (v := ?_) rfl (by kernel_rfl) (by kernel_rfl) (by kernel_rfl) (fun _ _ _ h => h) (Or.inl ⟨by rfl, ?_⟩) (by exact hS2) ?_
          rotate_left
          · (intro w hSw; (try dsimp only at hSw); go_simp; (try with_reducible rfl))
          try simp only [Act.put, List.setIfInBounds_toArray, List.set_cons_zero, List.set_cons_succ]
          clear aD rD aa ra TD Ta Ea ED
          have hb2 := fun wx (kx : Kp [] wb wx) => bytes_full wx al s8.log (ab.kept kx).l (Nat.le_trans hok8.l.len (by omega))
          have hb3 := fun wx (kx : Kp [] wb wx) => bytes_full wx ao s8.out (ab.kept kx).o (Nat.le_trans hok8.o.len (by omega))
          obtain ⟨Rl, cl, lc1, lv1⟩ := ref_text rb.l
          obtain ⟨Ro, co, oc1, ov1⟩ := ref_text rb.o
          rw [hst2.hl.hx] at lc1 lv1
          rw [hst2.ho.hx] at oc1 ov1
          have hyc := rb.c
          rw [hst2.hc] at hyc
          have HS2 : Hid (∀ wx, Kp [] wb wx → (wx.cell? ⟨P, 0, none⟩ = some (.int .i64 f.r.doc) ∧ wx.cell? ⟨P, 1, none⟩ = some (.int .i64 f.r.out) ∧ wx.cell? ⟨P, 2, none⟩ = some (.int .i64 f.r.len) ∧ wx.cell? ⟨P, 3, none⟩ = some (.slice Aq f.r.holes.length cq) ∧ wx.cell? ⟨P, 4, none⟩ = some (.slice Bq nb dq)) ∧ wx.cell? ⟨y, 0, none⟩ = some (.pointer (some ⟨yl, 0, none⟩)) ∧ wx.cell? ⟨y, 1, none⟩ = some (.pointer (some ⟨yo, 0, none⟩)) ∧ wx.cell? ⟨y, 2, none⟩ = some (.int .i64 s8.code) ∧ wx.cell? ⟨yl, 0, none⟩ = some (.slice Rl s8.log.xs.length cl) ∧ wx.cell? ⟨yo, 0, none⟩ = some (.slice Ro s8.out.xs.length co) ∧ (convert 25 9 (.slice Rl s8.log.xs.length cl)).run Tryd.prog wx = .ok (.string ⟨s8.log.xs.toArray⟩) wx ∧ (convert 25 9 (.slice Ro s8.out.xs.length co)).run Tryd.prog wx = .ok (.string ⟨s8.out.xs.toArray⟩) wx) :=
            hid (fun wx k => ⟨HS.out _ (Eb.keep k (by simp)), (hyc.keep k (by simp)).cell 0, (hyc.keep k (by simp)).cell 1, (hyc.keep k (by simp)).cell 2, lc1 wx k, oc1 wx k, lv1 wx k, ov1 wx k⟩)
          clear lc1 lv1 oc1 ov1 hyc
          refine wpAnyH_more (S2 := fun wx => (wx.cell? ⟨P, 0, none⟩ = some (.int .i64 f.r.doc) ∧ wx.cell? ⟨P, 1, none⟩ = some (.int .i64 f.r.out) ∧ wx.cell? ⟨P, 2, none⟩ = some (.int .i64 f.r.len) ∧ wx.cell? ⟨P, 3, none⟩ = some (.slice Aq f.r.holes.length cq) ∧ wx.cell? ⟨P, 4, none⟩ = some (.slice Bq nb dq)) ∧ wx.cell? ⟨y, 0, none⟩ = some (.pointer (some ⟨yl, 0, none⟩)) ∧ wx.cell? ⟨y, 1, none⟩ = some (.pointer (some ⟨yo, 0, none⟩)) ∧ wx.cell? ⟨y, 2, none⟩ = some (.int .i64 s8.code) ∧ wx.cell? ⟨yl, 0, none⟩ = some (.slice Rl s8.log.xs.length cl) ∧ wx.cell? ⟨yo, 0, none⟩ = some (.slice Ro s8.out.xs.length co) ∧ (convert 25 9 (.slice Rl s8.log.xs.length cl)).run Tryd.prog wx = .ok (.string ⟨s8.log.xs.toArray⟩) wx ∧ (convert 25 9 (.slice Ro s8.out.xs.length co)).run Tryd.prog wx = .ok (.string ⟨s8.out.xs.toArray⟩) wx) (fun _ h => h.1) _ _ _ _ ?_
          have hS3 := HS2.out _ (Kp.refl _ _)
          refine wpAnyH_take (i := 14) (oi := ⟨some 84, Op.move (Operand.tmp 8), 53, _, _, some (13, false)⟩) (v := ?_) rfl (by kernel_rfl) (by kernel_rfl) (by kernel_rfl) (fun _ _ _ h => h) (Or.inl ⟨by rfl, ?_⟩) (by exact hS3) ?_
          rotate_left
          · (intro w hSw; (try dsimp only at hSw); go_simp; (try with_reducible rfl))
          try simp only [Act.put, List.setIfInBounds_toArray, List.set_cons_zero, List.set_cons_succ]
          refine wpAnyH_take (i := 16) (oi := ⟨some 86, Op.move (Operand.tmp 9), 55, _, _, some (13, false)⟩) (v := ?_) rfl (by kernel_rfl) (by kernel_rfl) (by kernel_rfl) (fun _ _ _ h => h) (Or.inl ⟨by rfl, ?_⟩) (by exact hS3) ?_
          rotate_left
          · (intro w hSw; (try dsimp only at hSw); go_simp; (try with_reducible rfl))
          try simp only [Act.put, List.setIfInBounds_toArray, List.set_cons_zero, List.set_cons_succ]
          refine wpAnyH_take (i := 17) (oi := ⟨some 87, Op.nilCheck (Operand.tmp 86), 0, _, _, some (13, false)⟩) (v := ?_) rfl (by kernel_rfl) (by kernel_rfl) (by kernel_rfl) (fun _ _ _ h => h) (Or.inl ⟨by rfl, ?_⟩) (by exact hS3) ?_
          rotate_left
          · (intro w hSw; (try dsimp only at hSw); go_simp; (try with_reducible rfl))
          try simp only [Act.put, List.setIfInBounds_toArray, List.set_cons_zero, List.set_cons_succ]
          refine wpAnyH_take (i := 18) (oi := ⟨some 88, Op.fieldAddr 59 (Operand.tmp 87) 2, 0, _, _, some (13, false)⟩) (v := ?_) rfl (by kernel_rfl) (by kernel_rfl) (by kernel_rfl) (fun _ _ _ h => h) (Or.inl ⟨by rfl, ?_⟩) (by exact hS3) ?_
          rotate_left
          · (intro w hSw; (try dsimp only at hSw); go_simp; (try with_reducible rfl))
          try simp only [Act.put, List.setIfInBounds_toArray, List.set_cons_zero, List.set_cons_succ]
          refine wpAnyH_take (i := 19) (oi := ⟨some 89, Op.load 27 (Operand.tmp 88), 27, _, _, some (13, false)⟩) (v := ?_) rfl (by kernel_rfl) (by kernel_rfl) (by kernel_rfl) (fun _ _ _ h => h) (Or.inl ⟨by rfl, ?_⟩) (by exact hS3) ?_
          rotate_left
          · (intro w hSw; (try dsimp only at hSw); go_simp; (try with_reducible rfl))
          try simp only [Act.put, List.setIfInBounds_toArray, List.set_cons_zero, List.set_cons_succ]
          refine wpAnyH_ready (rs := [15]) (by kernel_rfl) (by simp) ?_
          refine AllReadyH.cons (o := ⟨some 85, Op.call { callee := Callee.value (Operand.func 31), args := #[Operand.tmp 84], argTypes := #[53] }, 27, _, _, some (13, false)⟩) rfl (fun K hK => ?_) AllReadyH.nil
          go_simp
          refine (code_any wb a al ao s8 ab).mono ?_
          rintro e wc ⟨rfl, rfl⟩
          have hS4 := hS3
          refine hK.out _ _ (by exact hS4) (fun _ => ?_)
          clear hK K
          try simp only [Act.put, List.setIfInBounds_toArray, List.set_cons_zero, List.set_cons_succ]
          refine wpAnyH_take (i := 20) (oi := ⟨some 90, Op.binOp BinOp.neq 27 (Operand.tmp 85) (Operand.tmp 89) 27, 4, _, _, some (13, false)⟩) (v := ?_) rfl (by kernel_rfl) (by kernel_rfl) (by kernel_rfl) (fun _ _ _ h => h) (Or.inl ⟨by rfl, ?_⟩) (by exact hS4) ?_
          rotate_left
          · (intro w hSw; (try dsimp only at hSw); go_simp; (try with_reducible rfl))
          try simp only [Act.put, List.setIfInBounds_toArray, List.set_cons_zero, List.set_cons_succ]
          refine wpAnyH_take (i := 21) (oi := ⟨some 91, Op.pick (Operand.tmp 83) (Operand.const (Value.bool true)) (Operand.tmp 90), 4, _, _, none⟩) (v := ?_) rfl (by kernel_rfl) (by kernel_rfl) (by kernel_rfl) (fun _ _ _ h => h) (Or.inl ⟨by rfl, ?_⟩) (by exact hS4) ?_
          rotate_left
          · (intro w hSw; (try dsimp only at hSw); go_simp; (try with_reducible rfl))
          try simp only [Act.put, List.setIfInBounds_toArray, List.set_cons_zero, List.set_cons_succ]
          refine wpAnyH_take (i := 22) (oi := ⟨some 92, Op.move (Operand.tmp 91), 4, _, _, none⟩) (v := ?_) rfl (by kernel_rfl) (by kernel_rfl) (by kernel_rfl) (fun _ _ _ h => h) (Or.inl ⟨by rfl, ?_⟩) (by exact hS4) ?_
          rotate_left
          · (intro w hSw; (try dsimp only at hSw); go_simp; (try with_reducible rfl))
          try simp only [Act.put, List.setIfInBounds_toArray, List.set_cons_zero, List.set_cons_succ]
          refine wpAnyH_take (i := 23) (oi := ⟨some 93, Op.move (Operand.tmp 6), 51, _, _, some (22, false)⟩) (v := ?_) rfl (by kernel_rfl) (by kernel_rfl) (by kernel_rfl) (fun _ _ _ h => h) (Or.inl ⟨by rfl, ?_⟩) (by exact hS4) ?_
          rotate_left
          · (intro w hSw; (try dsimp only at hSw); go_simp; (try with_reducible rfl))
          try simp only [Act.put, List.setIfInBounds_toArray, List.set_cons_zero, List.set_cons_succ]
          refine wpAnyH_take (i := 26) (oi := ⟨some 96, Op.move (Operand.tmp 9), 55, _, _, some (22, false)⟩) (v := ?_) rfl (by kernel_rfl) (by kernel_rfl) (by kernel_rfl) (fun _ _ _ h => h) (Or.inl ⟨by rfl, ?_⟩) (by exact hS4) ?_
          rotate_left
          · (intro w hSw; (try dsimp only at hSw); go_simp; (try with_reducible rfl))
          try simp only [Act.put, List.setIfInBounds_toArray, List.set_cons_zero, List.set_cons_succ]
          refine wpAnyH_take (i := 27) (oi := ⟨some 97, Op.nilCheck (Operand.tmp 96), 0, _, _, some (22, false)⟩) (v := ?_) rfl (by kernel_rfl) (by kernel_rfl) (by kernel_rfl) (fun _ _ _ h => h) (Or.inl ⟨by rfl, ?_⟩) (by exact hS4) ?_
          rotate_left
          · (intro w hSw; (try dsimp only at hSw); go_simp; (try with_reducible rfl))
          try simp only [Act.put, List.setIfInBounds_toArray, List.set_cons_zero, List.set_cons_succ]
          refine wpAnyH_take (i := 28) (oi := ⟨some 98, Op.fieldAddr 59 (Operand.tmp 97) 0, 0, _, _, some (22, false)⟩) (v := ?_) rfl (by kernel_rfl) (by kernel_rfl) (by kernel_rfl) (fun _ _ _ h => h) (Or.inl ⟨by rfl, ?_⟩) (by exact hS4) ?_
          rotate_left
          · (intro w hSw; (try dsimp only at hSw); go_simp; (try with_reducible rfl))
          try simp only [Act.put, List.setIfInBounds_toArray, List.set_cons_zero, List.set_cons_succ]
          refine wpAnyH_take (i := 29) (oi := ⟨some 99, Op.load 56 (Operand.tmp 98), 56, _, _, some (22, false)⟩) (v := ?_) rfl (by kernel_rfl) (by kernel_rfl) (by kernel_rfl) (fun _ _ _ h => h) (Or.inl ⟨by rfl, ?_⟩) (by exact hS4) ?_
          rotate_left
          · (intro w hSw; (try dsimp only at hSw); go_simp; (try with_reducible rfl))
          try simp only [Act.put, List.setIfInBounds_toArray, List.set_cons_zero, List.set_cons_succ]
          refine wpAnyH_take (i := 30) (oi := ⟨some 100, Op.nilCheck (Operand.tmp 99), 0, _, _, some (22, false)⟩) (v := ?_) rfl (by kernel_rfl) (by kernel_rfl) (by kernel_rfl) (fun _ _ _ h => h) (Or.inl ⟨by rfl, ?_⟩) (by exact hS4) ?_
          rotate_left
          · (intro w hSw; (try dsimp only at hSw); go_simp; (try with_reducible rfl))
          try simp only [Act.put, List.setIfInBounds_toArray, List.set_cons_zero, List.set_cons_succ]
          refine wpAnyH_take (i := 31) (oi := ⟨some 101, Op.fieldAddr 67 (Operand.tmp 100) 0, 0, _, _, some (22, false)⟩) (v := ?_) rfl (by kernel_rfl) (by kernel_rfl) (by kernel_rfl) (fun _ _ _ h => h) (Or.inl ⟨by rfl, ?_⟩) (by exact hS4) ?_
          rotate_left
          · (intro w hSw; (try dsimp only at hSw); go_simp; (try with_reducible rfl))
          try simp only [Act.put, List.setIfInBounds_toArray, List.set_cons_zero, List.set_cons_succ]
          refine wpAnyH_take (i := 32) (oi := ⟨some 102, Op.load 25 (Operand.tmp 101), 25, _, _, some (22, false)⟩) (v := ?_) rfl (by kernel_rfl) (by kernel_rfl) (by kernel_rfl) (fun _ _ _ h => h) (Or.inl ⟨by rfl, ?_⟩) (by exact hS4) ?_
          rotate_left
          · (intro w hSw; (try dsimp only at hSw); go_simp; (try with_reducible rfl))
          try simp only [Act.put, List.setIfInBounds_toArray, List.set_cons_zero, List.set_cons_succ]
          refine wpAnyH_take (i := 33) (oi := ⟨some 103, Op.convert 25 9 (Operand.tmp 102), 9, _, _, some (22, false)⟩) (v := ?_) rfl (by kernel_rfl) (by kernel_rfl) (by kernel_rfl) (fun _ _ _ h => h) (Or.inl ⟨by rfl, ?_⟩) (by exact hS4) ?_
          rotate_left
          · (intro w hSw; (try dsimp only at hSw); go_simp; (try with_reducible rfl))
          try simp only [Act.put, List.setIfInBounds_toArray, List.set_cons_zero, List.set_cons_succ]
          refine wpAnyH_ready (rs := [24]) (by kernel_rfl) (by simp) ?_
          refine AllReadyH.cons (o := ⟨some 94, Op.call { callee := Callee.value (Operand.func 32), args := #[Operand.tmp 93], argTypes := #[51] }, 25, _, _, some (22, false)⟩) rfl (fun K hK => ?_) AllReadyH.nil
          go_simp
          refine (hb2 wb (Kp.refl _ _)).mono ?_
          rintro e wd ⟨A9, c9, rfl, sp9, k9, -⟩
          have hcv9 := run_text (P := Tryd.prog) Tryd.underlying25 Tryd.underlying5 Tryd.underlying9 sp9 _ c9 rfl
          have hS5 := HS2.out _ k9
          refine hK.out _ _ (by exact hS5) (fun _ => ?_)
          clear hK K
          try simp only [Act.put, List.setIfInBounds_toArray, List.set_cons_zero, List.set_cons_succ]
          refine wpAnyH_ready (rs := [25]) (by kernel_rfl) (by simp) ?_
          refine AllReadyH.cons (o := ⟨some 95, Op.convert 25 9 (Operand.tmp 94), 9, _, _, some (22, false)⟩) rfl (fun K hK => ?_) AllReadyH.nil
          go_simp
          have hS6 := hS5
          refine hK.out _ _ (by exact hS6) (fun _ => ?_)
          clear hK K
          try simp only [Act.put, List.setIfInBounds_toArray, List.set_cons_zero, List.set_cons_succ]
          refine wpAnyH_take (i := 34) (oi := ⟨some 104, Op.binOp BinOp.neq 9 (Operand.tmp 95) (Operand.tmp 103) 9, 4, _, _, some (22, false)⟩) (v := ?_) rfl (by kernel_rfl) (by kernel_rfl) (by kernel_rfl) (fun _ _ _ h => h) (Or.inl ⟨by rfl, ?_⟩) (by exact hS6) ?_
          rotate_left
          · (intro w hSw; (try dsimp only at hSw); go_simp; (try with_reducible rfl))
          try simp only [Act.put, List.setIfInBounds_toArray, List.set_cons_zero, List.set_cons_succ]
          refine wpAnyH_take (i := 35) (oi := ⟨some 105, Op.pick (Operand.tmp 92) (Operand.const (Value.bool true)) (Operand.tmp 104), 4, _, _, none⟩) (v := ?_) rfl (by kernel_rfl) (by kernel_rfl) (by kernel_rfl) (fun _ _ _ h => h) (Or.inl ⟨by rfl, ?_⟩) (by exact hS6) ?_
          rotate_left
          · (intro w hSw; (try dsimp only at hSw); go_simp; (try with_reducible rfl))
          try simp only [Act.put, List.setIfInBounds_toArray, List.set_cons_zero, List.set_cons_succ]
          refine wpAnyH_take (i := 36) (oi := ⟨some 106, Op.move (Operand.tmp 105), 4, _, _, none⟩) (v := ?_) rfl (by kernel_rfl) (by kernel_rfl) (by kernel_rfl) (fun _ _ _ h => h) (Or.inl ⟨by rfl, ?_⟩) (by exact hS6) ?_
          rotate_left
          · (intro w hSw; (try dsimp only at hSw); go_simp; (try with_reducible rfl))
          try simp only [Act.put, List.setIfInBounds_toArray, List.set_cons_zero, List.set_cons_succ]
          refine wpAnyH_take (i := 37) (oi := ⟨some 107, Op.move (Operand.tmp 7), 51, _, _, some (36, false)⟩) (v := ?_) rfl (by kernel_rfl) (by kernel_rfl) (by kernel_rfl) (fun _ _ _ h => h) (Or.inl ⟨by rfl, ?_⟩) (by exact hS6) ?_
          rotate_left
          · (intro w hSw; (try dsimp only at hSw); go_simp; (try with_reducible rfl))
          try simp only [Act.put, List.setIfInBounds_toArray, List.set_cons_zero, List.set_cons_succ]
          refine wpAnyH_take (i := 40) (oi := ⟨some 110, Op.move (Operand.tmp 9), 55, _, _, some (36, false)⟩) (v := ?_) rfl (by kernel_rfl) (by kernel_rfl) (by kernel_rfl) (fun _ _ _ h => h) (Or.inl ⟨by rfl, ?_⟩) (by exact hS6) ?_
          rotate_left
          · (intro w hSw; (try dsimp only at hSw); go_simp; (try with_reducible rfl))
          try simp only [Act.put, List.setIfInBounds_toArray, List.set_cons_zero, List.set_cons_succ]
          refine wpAnyH_take (i := 41) (oi := ⟨some 111, Op.nilCheck (Operand.tmp 110), 0, _, _, some (36, false)⟩) (v := ?_) rfl (by kernel_rfl) (by kernel_rfl) (by kernel_rfl) (fun _ _ _ h => h) (Or.inl ⟨by rfl, ?_⟩) (by exact hS6) ?_
          rotate_left
          · (intro w hSw; (try dsimp only at hSw); go_simp; (try with_reducible rfl))
          try simp only [Act.put, List.setIfInBounds_toArray, List.set_cons_zero, List.set_cons_succ]
          refine wpAnyH_take (i := 42) (oi := ⟨some 112, Op.fieldAddr 59 (Operand.tmp 111) 1, 0, _, _, some (36, false)⟩) (v := ?_) rfl (by kernel_rfl) (by kernel_rfl) (by kernel_rfl) (fun _ _ _ h => h) (Or.inl ⟨by rfl, ?_⟩) (by exact hS6) ?_
          rotate_left
          · (intro w hSw; (try dsimp only at hSw); go_simp; (try with_reducible rfl))
          try simp only [Act.put, List.setIfInBounds_toArray, List.set_cons_zero, List.set_cons_succ]
          refine wpAnyH_take (i := 43) (oi := ⟨some 113, Op.load 56 (Operand.tmp 112), 56, _, _, some (36, false)⟩) (v := ?_) rfl (by kernel_rfl) (by kernel_rfl) (by kernel_rfl) (fun _ _ _ h => h) (Or.inl ⟨by rfl, ?_⟩) (by exact hS6) ?_
          rotate_left
          · (intro w hSw; (try dsimp only at hSw); go_simp; (try with_reducible rfl))
          try simp only [Act.put, List.setIfInBounds_toArray, List.set_cons_zero, List.set_cons_succ]
          refine wpAnyH_take (i := 44) (oi := ⟨some 114, Op.nilCheck (Operand.tmp 113), 0, _, _, some (36, false)⟩) (v := ?_) rfl (by kernel_rfl) (by kernel_rfl) (by kernel_rfl) (fun _ _ _ h => h) (Or.inl ⟨by rfl, ?_⟩) (by exact hS6) ?_
          rotate_left
          · (intro w hSw; (try dsimp only at hSw); go_simp; (try with_reducible rfl))
          try simp only [Act.put, List.setIfInBounds_toArray, List.set_cons_zero, List.set_cons_succ]
          refine wpAnyH_take (i := 45) (oi := ⟨some 115, Op.fieldAddr 67 (Operand.tmp 114) 0, 0, _, _, some (36, false)⟩) (v := ?_) rfl (by kernel_rfl) (by kernel_rfl) (by kernel_rfl) (fun _ _ _ h => h) (Or.inl ⟨by rfl, ?_⟩) (by exact hS6) ?_
          rotate_left
          · (intro w hSw; (try dsimp only at hSw); go_simp; (try with_reducible rfl))
          try simp only [Act.put, List.setIfInBounds_toArray, List.set_cons_zero, List.set_cons_succ]
          refine wpAnyH_take (i := 46) (oi := ⟨some 116, Op.load 25 (Operand.tmp 115), 25, _, _, some (36, false)⟩) (v := ?_) rfl (by kernel_rfl) (by kernel_rfl) (by kernel_rfl) (fun _ _ _ h => h) (Or.inl ⟨by rfl, ?_⟩) (by exact hS6) ?_
          rotate_left
          · (intro w hSw; (try dsimp only at hSw); go_simp; (try with_reducible rfl))
          try simp only [Act.put, List.setIfInBounds_toArray, List.set_cons_zero, List.set_cons_succ]
          refine wpAnyH_take (i := 47) (oi := ⟨some 117, Op.convert 25 9 (Operand.tmp 116), 9, _, _, some (36, false)⟩) (v := ?_) rfl (by kernel_rfl) (by kernel_rfl) (by kernel_rfl) (fun _ _ _ h => h) (Or.inl ⟨by rfl, ?_⟩) (by exact hS6) ?_
          rotate_left
          · (intro w hSw; (try dsimp only at hSw); go_simp; (try with_reducible rfl))
          try simp only [Act.put, List.setIfInBounds_toArray, List.set_cons_zero, List.set_cons_succ]
          refine wpAnyH_ready (rs := [38]) (by kernel_rfl) (by simp) ?_
          refine AllReadyH.cons (o := ⟨some 108, Op.call { callee := Callee.value (Operand.func 32), args := #[Operand.tmp 107], argTypes := #[51] }, 25, _, _, some (36, false)⟩) rfl (fun K hK => ?_) AllReadyH.nil
          go_simp
          refine (hb3 wd k9).mono ?_
          rintro e we ⟨A8, c8, rfl, sp8, k8, -⟩
          have hcv8 := run_text (P := Tryd.prog) Tryd.underlying25 Tryd.underlying5 Tryd.underlying9 sp8 _ c8 rfl
          have hS7 := HS2.out _ (k9.nil k8)
          refine hK.out _ _ (by exact hS7) (fun _ => ?_)
          clear hK K
          try simp only [Act.put, List.setIfInBounds_toArray, List.set_cons_zero, List.set_cons_succ]
          refine wpAnyH_ready (rs := [39]) (by kernel_rfl) (by simp) ?_
          refine AllReadyH.cons (o := ⟨some 109, Op.convert 25 9 (Operand.tmp 108), 9, _, _, some (36, false)⟩) rfl (fun K hK => ?_) AllReadyH.nil
          go_simp
          have hS8 := hS7
          refine hK.out _ _ (by exact hS8) (fun _ => ?_)
          clear hK K
          try simp only [Act.put, List.setIfInBounds_toArray, List.set_cons_zero, List.set_cons_succ]
          refine wpAnyH_take (i := 48) (oi := ⟨some 118, Op.binOp BinOp.neq 9 (Operand.tmp 109) (Operand.tmp 117) 9, 4, _, _, some (36, false)⟩) (v := ?_) rfl (by kernel_rfl) (by kernel_rfl) (by kernel_rfl) (fun _ _ _ h => h) (Or.inl ⟨by rfl, ?_⟩) (by exact hS8) ?_
          rotate_left
          · (intro w hSw; (try dsimp only at hSw); go_simp; (try with_reducible rfl))
          try simp only [Act.put, List.setIfInBounds_toArray, List.set_cons_zero, List.set_cons_succ]
          refine wpAnyH_take (i := 49) (oi := ⟨some 119, Op.pick (Operand.tmp 106) (Operand.const (Value.bool true)) (Operand.tmp 118), 4, _, _, none⟩) (v := ?_) rfl (by kernel_rfl) (by kernel_rfl) (by kernel_rfl) (fun _ _ _ h => h) (Or.inl ⟨by rfl, ?_⟩) (by exact hS8) ?_
          rotate_left
          · (intro w hSw; (try dsimp only at hSw); go_simp; (try with_reducible rfl))
          try simp only [Act.put, List.setIfInBounds_toArray, List.set_cons_zero, List.set_cons_succ]
          refine wpAnyH_done (by kernel_rfl) ?_ _
          refine NoPanic.normal ?_
          go_wp2_with fail
          go_meet
          have k10 := k9.nil k8
          exact ⟨rfl, ab.kept k10, rb.kept k10, kwb.nil k10⟩
        case rest =>
          obtain ⟨rfl, ha8, hr8, k8⟩ := hcut
          go_wp2_with fail
          go_roundw
          case rel => exact ⟨k + 1, s8, t8, by omega, by omega, by go_num, ha8, hr8, hst2, hok8, hrok8, k8⟩
          case measure => simp [intOf]; omega
      · obtain ⟨vl, rl1, rl2⟩ := hr.l
        obtain ⟨vo, ro1, ro2⟩ := hr.o
        obtain ⟨Rl, cl, rfl, spl, hcl1, hcl2, -⟩ := OwnN.shape (s := 1) rl2
        obtain ⟨Ro, co, rfl, spo, hco1, hco2, -⟩ := OwnN.shape (s := 1) ro2
        rw [hsim.hl.hx] at rl1 spl hcl1
        rw [hsim.ho.hx] at ro1 spo hco1
        obtain ⟨X, hX⟩ : ∃ X, X = s.log.xs := ⟨_, rfl⟩
        obtain ⟨Z, hZ⟩ : ∃ Z, Z = s.out.xs := ⟨_, rfl⟩
        obtain ⟨nx, hnx⟩ : ∃ nx, nx = X.length := ⟨_, rfl⟩
        obtain ⟨nz, hnz⟩ : ∃ nz, nz = Z.length := ⟨_, rfl⟩
        have hnx9 : nx ≤ 10000000 := by have := hok.l.len; rw [← hX, ← hnx] at this; omega
        have hnz9 : nz ≤ 10000000 := by have := hok.o.len; rw [← hZ, ← hnz] at this; omega
        have Hbl : Hid (∀ wx, Kp [] wr wx → Calls Tryd.prog 32 #[.pointer (some ⟨al, 0, none⟩)] wx (BytesFull wx X)) := hid (fun wx kx => hX ▸ bytes_full wx al s.log (ha.l.kept kx) (Nat.le_trans hok.l.len (by omega)))
        have Hbo : Hid (∀ wx, Kp [] wr wx → Calls Tryd.prog 32 #[.pointer (some ⟨ao, 0, none⟩)] wx (BytesFull wx Z)) := hid (fun wx kx => hZ ▸ bytes_full wx ao s.out (ha.o.kept kx) (Nat.le_trans hok.o.len (by omega)))
        rw [← hX] at rl1 spl hcl1
        rw [← hZ] at ro1 spo hco1
        rw [← hnx] at rl1 hcl1
        rw [← hnz] at ro1 hco1
        have HSy : Hid (∀ wx, Kp [] wr wx → wx.cell? ⟨y, 0, none⟩ = some (.pointer (some ⟨yl, 0, none⟩)) ∧ wx.cell? ⟨y, 1, none⟩ = some (.pointer (some ⟨yo, 0, none⟩)) ∧ wx.cell? ⟨yl, 0, none⟩ = some (.slice Rl nx cl) ∧ wx.cell? ⟨yo, 0, none⟩ = some (.slice Ro nz co)) :=
          hid (fun wx k => ⟨(hr.c.keep k (by simp)).cell 0, (hr.c.keep k (by simp)).cell 1, (rl1.keep k (by simp)).cell 0, (ro1.keep k (by simp)).cell 0⟩)
        have Hnx := hid hnx
        have Hnz := hid hnz
        clear rl1 ro1 rl2 ro2 hX hZ hnx hnz ha hr hsim hok hrok
        have hout : (k < n ∧ k = 40) ∨ ¬ k < n := by omega
        clear hlt
        rcases hout with ⟨h1, rfl⟩ | h1
        all_goals
          go_wp2_with fail
          refine (Hbl.out wr (Kp.refl _ _)).mono ?_
          rintro e w5 ⟨A5, c5, rfl, sx, k5, -, hx5, hx52⟩
          rw [← Hnx.out] at hx5 ⊢
          go_wp2_with fail
          refine (recover_any w5 (hT.kept (kr.nil k5)) A5 nx c5 X sx Hnx.out.symm hx5 hx52 (by omega)).mono ?_
          rintro e w6 ⟨us, rest, v6, hrows6, rfl, hro6, k6, -⟩
          have k56 := k5.nil k6
          obtain ⟨A6, c6, rfl, hR6, -⟩ := hro6.shape
          have hus : us.length ≤ nx := by
            have h1 := putAll_len us
            have h2 := congrArg List.length hrows6.2.1
            rw [List.length_append, ← Hnx.out] at h2
            omega
          obtain ⟨N, hN⟩ : ∃ N, N = (putAll us).length := ⟨_, rfl⟩
          rw [← hN]
          have HN := hid hN
          have Hrows := hid hrows6
          obtain ⟨g1, g2, g3, g4⟩ := HSy.out w6 k56
          clear hN hrows6 hro6
          go_wp2_with fail
          refine (rall_any w6 Rl nx cl X (spl.kept k56) Hnx.out.symm hcl1 hcl2 (by omega)).mono ?_
          rintro e w7 ⟨us7, rest7, v7, hrows7, rfl, hro7, k7, -⟩
          obtain ⟨e7, -⟩ := Hrows.out.one hrows7
          subst us7
          rw [← HN.out]
          obtain ⟨A7, c7, rfl, hR7, -⟩ := hro7.shape
          have k57 := k56.nil k7
          have hR6' := hR6.kept k7
          clear hrows7 hro7 hR6 g1 g2 g3 g4
          go_wp2_with fail
          refine (same_any w7 A6 c6 us hR6' A7 c7 us hR7 (by omega)).mono ?_
          rintro e w8 ⟨b, rfl, hb, q, hw8⟩
          obtain rfl : b = true := hb.2 rfl
          have k8 : Kp [] wr w8 := by rw [hw8]; exact k57.drewN q
          clear hw8 hb hR6' hR7
          go_upto_region 19 with fail
          have kD : Kp [] wr w8.drew := k8.drew
          refine wp_region_noPanic ?_
          refine wp_region_held (S := fun wx => wx.cell? ⟨y, 0, none⟩ = some (.pointer (some ⟨yl, 0, none⟩)) ∧ wx.cell? ⟨y, 1, none⟩ = some (.pointer (some ⟨yo, 0, none⟩)) ∧ wx.cell? ⟨yl, 0, none⟩ = some (.slice Rl nx cl) ∧ wx.cell? ⟨yo, 0, none⟩ = some (.slice Ro nz co)) (by kernel_rfl) ?_
          have hS0 := HSy.out _ kD
          refine wpAnyH_take (i := 0) (oi := ⟨some 140, Op.move (Operand.tmp 16), 4, _, _, none⟩) (v := ?_) rfl (by kernel_rfl) (by kernel_rfl) (by kernel_rfl) (fun _ _ _ h => h) (Or.inl ⟨by rfl, ?_⟩) (by exact hS0) ?_
          rotate_left
          · (intro w hSw; (try dsimp only at hSw); go_simp; (try with_reducible rfl))
          try simp only [Act.put, List.setIfInBounds_toArray, List.set_cons_zero, List.set_cons_succ]
          refine wpAnyH_take (i := 1) (oi := ⟨some 141, Op.move (Operand.tmp 140), 4, _, _, none⟩) (v := ?_) rfl (by kernel_rfl) (by kernel_rfl) (by kernel_rfl) (fun _ _ _ h => h) (Or.inl ⟨by rfl, ?_⟩) (by exact hS0) ?_
          rotate_left
          · (intro w hSw; (try dsimp only at hSw); go_simp; (try with_reducible rfl))
          try simp only [Act.put, List.setIfInBounds_toArray, List.set_cons_zero, List.set_cons_succ]
          refine wpAnyH_take (i := 2) (oi := ⟨some 142, Op.move (Operand.tmp 13), 3, _, _, some (1, true)⟩) (v := ?_) rfl (by kernel_rfl) (by kernel_rfl) (by kernel_rfl) (fun _ _ _ h => h) (Or.inl ⟨by rfl, ?_⟩) (by exact hS0) ?_
          rotate_left
          · (intro w hSw; (try dsimp only at hSw); go_simp; (try with_reducible rfl))
          try simp only [Act.put, List.setIfInBounds_toArray, List.set_cons_zero, List.set_cons_succ]
          refine wpAnyH_take (i := 3) (oi := ⟨some 143, Op.move (Operand.tmp 15), 3, _, _, some (1, true)⟩) (v := ?_) rfl (by kernel_rfl) (by kernel_rfl) (by kernel_rfl) (fun _ _ _ h => h) (Or.inl ⟨by rfl, ?_⟩) (by exact hS0) ?_
          rotate_left
          · (intro w hSw; (try dsimp only at hSw); go_simp; (try with_reducible rfl))
          try simp only [Act.put, List.setIfInBounds_toArray, List.set_cons_zero, List.set_cons_succ]
          refine wpAnyH_take (i := 4) (oi := ⟨some 144, Op.binOp BinOp.eql 3 (Operand.tmp 142) (Operand.tmp 143) 3, 4, _, _, some (1, true)⟩) (v := ?_) rfl (by kernel_rfl) (by kernel_rfl) (by kernel_rfl) (fun _ _ _ h => h) (Or.inl ⟨by rfl, ?_⟩) (by exact hS0) ?_
          rotate_left
          · (intro w hSw; (try dsimp only at hSw); go_simp; (try with_reducible rfl))
          try simp only [Act.put, List.setIfInBounds_toArray, List.set_cons_zero, List.set_cons_succ]
          refine wpAnyH_take (i := 5) (oi := ⟨some 145, Op.pick (Operand.tmp 141) (Operand.tmp 144) (Operand.const (Value.bool false)), 4, _, _, none⟩) (v := ?_) rfl (by kernel_rfl) (by kernel_rfl) (by kernel_rfl) (fun _ _ _ h => h) (Or.inl ⟨by rfl, ?_⟩) (by exact hS0) ?_
          rotate_left
          · (intro w hSw; (try dsimp only at hSw); go_simp; (try with_reducible rfl))
          try simp only [Act.put, List.setIfInBounds_toArray, List.set_cons_zero, List.set_cons_succ]
          refine wpAnyH_take (i := 6) (oi := ⟨some 146, Op.move (Operand.tmp 145), 4, _, _, none⟩) (v := ?_) rfl (by kernel_rfl) (by kernel_rfl) (by kernel_rfl) (fun _ _ _ h => h) (Or.inl ⟨by rfl, ?_⟩) (by exact hS0) ?_
          rotate_left
          · (intro w hSw; (try dsimp only at hSw); go_simp; (try with_reducible rfl))
          try simp only [Act.put, List.setIfInBounds_toArray, List.set_cons_zero, List.set_cons_succ]
          refine wpAnyH_take (i := 7) (oi := ⟨some 147, Op.move (Operand.tmp 6), 51, _, _, some (6, true)⟩) (v := ?_) rfl (by kernel_rfl) (by kernel_rfl) (by kernel_rfl) (fun _ _ _ h => h) (Or.inl ⟨by rfl, ?_⟩) (by exact hS0) ?_
          rotate_left
          · (intro w hSw; (try dsimp only at hSw); go_simp; (try with_reducible rfl))
          try simp only [Act.put, List.setIfInBounds_toArray, List.set_cons_zero, List.set_cons_succ]
          refine wpAnyH_take (i := 9) (oi := ⟨some 149, Op.move (Operand.tmp 7), 51, _, _, some (6, true)⟩) (v := ?_) rfl (by kernel_rfl) (by kernel_rfl) (by kernel_rfl) (fun _ _ _ h => h) (Or.inl ⟨by rfl, ?_⟩) (by exact hS0) ?_
          rotate_left
          · (intro w hSw; (try dsimp only at hSw); go_simp; (try with_reducible rfl))
          try simp only [Act.put, List.setIfInBounds_toArray, List.set_cons_zero, List.set_cons_succ]
          refine wpAnyH_take (i := 12) (oi := ⟨some 152, Op.move (Operand.tmp 9), 55, _, _, some (6, true)⟩) (v := ?_) rfl (by kernel_rfl) (by kernel_rfl) (by kernel_rfl) (fun _ _ _ h => h) (Or.inl ⟨by rfl, ?_⟩) (by exact hS0) ?_
          rotate_left
          · (intro w hSw; (try dsimp only at hSw); go_simp; (try with_reducible rfl))
          try simp only [Act.put, List.setIfInBounds_toArray, List.set_cons_zero, List.set_cons_succ]
          refine wpAnyH_take (i := 13) (oi := ⟨some 153, Op.nilCheck (Operand.tmp 152), 0, _, _, some (6, true)⟩) (v := ?_) rfl (by kernel_rfl) (by kernel_rfl) (by kernel_rfl) (fun _ _ _ h => h) (Or.inl ⟨by rfl, ?_⟩) (by exact hS0) ?_
          rotate_left
          · (intro w hSw; (try dsimp only at hSw); go_simp; (try with_reducible rfl))
          try simp only [Act.put, List.setIfInBounds_toArray, List.set_cons_zero, List.set_cons_succ]
          refine wpAnyH_take (i := 14) (oi := ⟨some 154, Op.fieldAddr 59 (Operand.tmp 153) 0, 0, _, _, some (6, true)⟩) (v := ?_) rfl (by kernel_rfl) (by kernel_rfl) (by kernel_rfl) (fun _ _ _ h => h) (Or.inl ⟨by rfl, ?_⟩) (by exact hS0) ?_
          rotate_left
          · (intro w hSw; (try dsimp only at hSw); go_simp; (try with_reducible rfl))
          try simp only [Act.put, List.setIfInBounds_toArray, List.set_cons_zero, List.set_cons_succ]
          refine wpAnyH_take (i := 15) (oi := ⟨some 155, Op.load 56 (Operand.tmp 154), 56, _, _, some (6, true)⟩) (v := ?_) rfl (by kernel_rfl) (by kernel_rfl) (by kernel_rfl) (fun _ _ _ h => h) (Or.inl ⟨by rfl, ?_⟩) (by exact hS0) ?_
          rotate_left
          · (intro w hSw; (try dsimp only at hSw); go_simp; (try with_reducible rfl))
          try simp only [Act.put, List.setIfInBounds_toArray, List.set_cons_zero, List.set_cons_succ]
          refine wpAnyH_take (i := 16) (oi := ⟨some 156, Op.nilCheck (Operand.tmp 155), 0, _, _, some (6, true)⟩) (v := ?_) rfl (by kernel_rfl) (by kernel_rfl) (by kernel_rfl) (fun _ _ _ h => h) (Or.inl ⟨by rfl, ?_⟩) (by exact hS0) ?_
          rotate_left
          · (intro w hSw; (try dsimp only at hSw); go_simp; (try with_reducible rfl))
          try simp only [Act.put, List.setIfInBounds_toArray, List.set_cons_zero, List.set_cons_succ]
          refine wpAnyH_take (i := 17) (oi := ⟨some 157, Op.fieldAddr 67 (Operand.tmp 156) 0, 0, _, _, some (6, true)⟩) (v := ?_) rfl (by kernel_rfl) (by kernel_rfl) (by kernel_rfl) (fun _ _ _ h => h) (Or.inl ⟨by rfl, ?_⟩) (by exact hS0) ?_
          rotate_left
          · (intro w hSw; (try dsimp only at hSw); go_simp; (try with_reducible rfl))
          try simp only [Act.put, List.setIfInBounds_toArray, List.set_cons_zero, List.set_cons_succ]
          refine wpAnyH_take (i := 18) (oi := ⟨some 158, Op.load 25 (Operand.tmp 157), 25, _, _, some (6, true)⟩) (v := ?_) rfl (by kernel_rfl) (by kernel_rfl) (by kernel_rfl) (fun _ _ _ h => h) (Or.inl ⟨by rfl, ?_⟩) (by exact hS0) ?_
          rotate_left
          · (intro w hSw; (try dsimp only at hSw); go_simp; (try with_reducible rfl))
          try simp only [Act.put, List.setIfInBounds_toArray, List.set_cons_zero, List.set_cons_succ]
          refine wpAnyH_take (i := 19) (oi := ⟨some 159, Op.move (Operand.tmp 9), 55, _, _, some (6, true)⟩) (v := ?_) rfl (by kernel_rfl) (by kernel_rfl) (by kernel_rfl) (fun _ _ _ h => h) (Or.inl ⟨by rfl, ?_⟩) (by exact hS0) ?_
          rotate_left
          · (intro w hSw; (try dsimp only at hSw); go_simp; (try with_reducible rfl))
          try simp only [Act.put, List.setIfInBounds_toArray, List.set_cons_zero, List.set_cons_succ]
          refine wpAnyH_take (i := 20) (oi := ⟨some 160, Op.nilCheck (Operand.tmp 159), 0, _, _, some (6, true)⟩) (v := ?_) rfl (by kernel_rfl) (by kernel_rfl) (by kernel_rfl) (fun _ _ _ h => h) (Or.inl ⟨by rfl, ?_⟩) (by exact hS0) ?_
          rotate_left
          · (intro w hSw; (try dsimp only at hSw); go_simp; (try with_reducible rfl))
          try simp only [Act.put, List.setIfInBounds_toArray, List.set_cons_zero, List.set_cons_succ]
          refine wpAnyH_take (i := 21) (oi := ⟨some 161, Op.fieldAddr 59 (Operand.tmp 160) 1, 0, _, _, some (6, true)⟩) (v := ?_) rfl (by kernel_rfl) (by kernel_rfl) (by kernel_rfl) (fun _ _ _ h => h) (Or.inl ⟨by rfl, ?_⟩) (by exact hS0) ?_
          rotate_left
          · (intro w hSw; (try dsimp only at hSw); go_simp; (try with_reducible rfl))
          try simp only [Act.put, List.setIfInBounds_toArray, List.set_cons_zero, List.set_cons_succ]
          refine wpAnyH_take (i := 22) (oi := ⟨some 162, Op.load 56 (Operand.tmp 161), 56, _, _, some (6, true)⟩) (v := ?_) rfl (by kernel_rfl) (by kernel_rfl) (by kernel_rfl) (fun _ _ _ h => h) (Or.inl ⟨by rfl, ?_⟩) (by exact hS0) ?_
          rotate_left
          · (intro w hSw; (try dsimp only at hSw); go_simp; (try with_reducible rfl))
          try simp only [Act.put, List.setIfInBounds_toArray, List.set_cons_zero, List.set_cons_succ]
          refine wpAnyH_take (i := 23) (oi := ⟨some 163, Op.nilCheck (Operand.tmp 162), 0, _, _, some (6, true)⟩) (v := ?_) rfl (by kernel_rfl) (by kernel_rfl) (by kernel_rfl) (fun _ _ _ h => h) (Or.inl ⟨by rfl, ?_⟩) (by exact hS0) ?_
          rotate_left
          · (intro w hSw; (try dsimp only at hSw); go_simp; (try with_reducible rfl))
          try simp only [Act.put, List.setIfInBounds_toArray, List.set_cons_zero, List.set_cons_succ]
          refine wpAnyH_take (i := 24) (oi := ⟨some 164, Op.fieldAddr 67 (Operand.tmp 163) 0, 0, _, _, some (6, true)⟩) (v := ?_) rfl (by kernel_rfl) (by kernel_rfl) (by kernel_rfl) (fun _ _ _ h => h) (Or.inl ⟨by rfl, ?_⟩) (by exact hS0) ?_
          rotate_left
          · (intro w hSw; (try dsimp only at hSw); go_simp; (try with_reducible rfl))
          try simp only [Act.put, List.setIfInBounds_toArray, List.set_cons_zero, List.set_cons_succ]
          refine wpAnyH_take (i := 25) (oi := ⟨some 165, Op.load 25 (Operand.tmp 164), 25, _, _, some (6, true)⟩) (v := ?_) rfl (by kernel_rfl) (by kernel_rfl) (by kernel_rfl) (fun _ _ _ h => h) (Or.inl ⟨by rfl, ?_⟩) (by exact hS0) ?_
          rotate_left
          · (intro w hSw; (try dsimp only at hSw); go_simp; (try with_reducible rfl))
          try simp only [Act.put, List.setIfInBounds_toArray, List.set_cons_zero, List.set_cons_succ]
          refine wpAnyH_ready (rs := [8]) (by kernel_rfl) (by simp) ?_
          refine AllReadyH.cons (o := ⟨some 148, Op.call { callee := Callee.value (Operand.func 32), args := #[Operand.tmp 147], argTypes := #[51] }, 25, _, _, some (6, true)⟩) rfl (fun K hK => ?_) AllReadyH.nil
          go_simp
          refine (Hbl.out _ kD).mono ?_
          rintro e w9 ⟨A9, c9, rfl, sx9, k9, -, hx9, hx92⟩
          rw [← Hnx.out] at hx9 ⊢
          have kE := kD.nil k9
          have hS1 := HSy.out _ kE
          refine hK.out _ _ (by exact hS1) (fun _ => ?_)
          clear hK K
          try simp only [Act.put, List.setIfInBounds_toArray, List.set_cons_zero, List.set_cons_succ]
          refine wpAnyH_ready (rs := [10]) (by kernel_rfl) (by simp) ?_
          refine AllReadyH.cons (o := ⟨some 150, Op.call { callee := Callee.value (Operand.func 32), args := #[Operand.tmp 149], argTypes := #[51] }, 25, _, _, some (6, true)⟩) rfl (fun K hK => ?_) AllReadyH.nil
          go_simp
          refine (Hbo.out _ kE).mono ?_
          rintro e w10 ⟨A10, c10, rfl, -, k10, -⟩
          rw [← Hnz.out]
          have kF := kE.nil k10
          have hS2 := HSy.out _ kF
          refine hK.out _ _ (by exact hS2) (fun _ => ?_)
          clear hK K
          try simp only [Act.put, List.setIfInBounds_toArray, List.set_cons_zero, List.set_cons_succ]
          refine wpAnyH_ready (rs := [11]) (by kernel_rfl) (by simp) ?_
          refine AllReadyH.cons (o := ⟨some 151, Op.call { callee := Callee.value (Operand.func 34), args := #[Operand.tmp 148, Operand.tmp 150], argTypes := #[25, 25] }, 4, _, _, some (6, true)⟩) rfl (fun K hK => ?_) AllReadyH.nil
          go_simp
          refine (proved_any w10 (hT.kept (kr.nil kF)) A9 nx c9 X (sx9.kept k10) Hnx.out.symm hx9 hx92 (by omega) A10 nz c10 (by omega)).mono ?_
          rintro e w11 ⟨us1, rest1, hrows1, rfl, k11⟩
          obtain ⟨e1, -⟩ := Hrows.out.one hrows1
          subst us1
          clear hrows1
          obtain ⟨B, hB⟩ : ∃ B, B = decide ((nz : Int) ≤ sumLen us) := ⟨_, rfl⟩
          rw [← hB]
          have HB := hid hB
          clear hB
          have kG := kF.nil k11
          have hS3 := HSy.out _ kG
          refine hK.out _ _ (by exact hS3) (fun _ => ?_)
          clear hK K
          try simp only [Act.put, List.setIfInBounds_toArray, List.set_cons_zero, List.set_cons_succ]
          refine wpAnyH_ready (rs := [26]) (by kernel_rfl) (by simp) ?_
          refine AllReadyH.cons (o := ⟨some 166, Op.call { callee := Callee.value (Operand.func 35), args := #[Operand.tmp 158, Operand.tmp 165], argTypes := #[25, 25] }, 4, _, _, some (6, true)⟩) rfl (fun K hK => ?_) AllReadyH.nil
          go_simp
          refine (rproved_any w11 Rl nx cl X (spl.kept kG) Hnx.out.symm hcl1 hcl2 (by omega) Ro nz co).mono ?_
          rintro e w12 ⟨us2, rest2, hrows2, rfl, k12⟩
          obtain ⟨e2, -⟩ := Hrows.out.one hrows2
          subst us2
          clear hrows2
          rw [← HB.out]
          have kH := kG.nil k12
          have hS4 := HSy.out _ kH
          refine hK.out _ _ (by exact hS4) (fun _ => ?_)
          clear hK K
          try simp only [Act.put, List.setIfInBounds_toArray, List.set_cons_zero, List.set_cons_succ]
          refine wpAnyH_take (i := 27) (oi := ⟨some 167, Op.binOp BinOp.eql 4 (Operand.tmp 151) (Operand.tmp 166) 4, 4, _, _, some (6, true)⟩) (v := ?_) rfl (by kernel_rfl) (by kernel_rfl) (by kernel_rfl) (fun _ _ _ h => h) (Or.inl ⟨by rfl, ?_⟩) (by exact hS4) ?_
          rotate_left
          · (intro w hSw; (try dsimp only at hSw); go_simp; (try with_reducible rfl))
          try simp only [Act.put, List.setIfInBounds_toArray, List.set_cons_zero, List.set_cons_succ]
          refine wpAnyH_take (i := 28) (oi := ⟨some 168, Op.pick (Operand.tmp 146) (Operand.tmp 167) (Operand.const (Value.bool false)), 4, _, _, none⟩) (v := ?_) rfl (by kernel_rfl) (by kernel_rfl) (by kernel_rfl) (fun _ _ _ h => h) (Or.inl ⟨by rfl, ?_⟩) (by exact hS4) ?_
          rotate_left
          · (intro w hSw; (try dsimp only at hSw); go_simp; (try with_reducible rfl))
          try simp only [Act.put, List.setIfInBounds_toArray, List.set_cons_zero, List.set_cons_succ]
          refine wpAnyH_take (i := 29) (oi := ⟨some 4, Op.assign (Operand.tmp 168), 4, _, _, none⟩) (v := ?_) rfl (by kernel_rfl) (by kernel_rfl) (by kernel_rfl) (fun _ _ _ h => h) (Or.inl ⟨by rfl, ?_⟩) (by exact hS4) ?_
          rotate_left
          · (intro w hSw; (try dsimp only at hSw); go_simp; (try with_reducible rfl))
          try simp only [Act.put, List.setIfInBounds_toArray, List.set_cons_zero, List.set_cons_succ]
          refine wpAnyH_done (by kernel_rfl) ?_ _
          refine NoPanic.normal ?_
          go_wp2_with fail
          go_ret
          exact ⟨by simp, kr.nil kH⟩
end Go.Proofs.YtepeopfdenieeaaDoor
