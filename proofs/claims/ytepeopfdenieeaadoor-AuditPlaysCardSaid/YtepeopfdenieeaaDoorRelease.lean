/- (*Audit).Release: what it notes, and lets out. -/
import Derived.Test.YtepeopfdenieeaaDoorAudit
namespace Go.Proofs.YtepeopfdenieeaaDoor
open Go Go.RowKit

/-- Bytes lie in no block of other cells. -/
theorem span_not {w : World} {g : Nat} {t : TypeId} {cs : List Value} (hc : Cells w g t cs) (hno : ∀ u ∈ cs, ∀ z, u ≠ .int .u8 z) {A : Option Addr} {ys : List UInt8} (hs : Span w A (u8s ys)) (hy : 0 < ys.length) : ∀ ad, A = some ad → ad.block ≠ g := by
  rintro ad rfl he
  obtain ⟨ad', e, hcell⟩ := hs.get (j := 0) (by rw [length_u8s]; exact hy)
  injection e with e
  subst e
  have h0 : ad.add 0 = ad := by simp [Addr.add]
  rw [h0] at hcell
  unfold Cells at hc
  unfold World.cell? at hcell
  rw [he, hc] at hcell
  simp only [u8s, u8, List.getElem_map] at hcell
  have hcell' : cs[ad.off]? = some (.int .u8 (ys[0].toNat : Int)) := by
    have := hcell
    simp at this
    exact this.2
  exact hno _ (List.mem_of_getElem? hcell') _ rfl
theorem span_keep {w w' : World} {g : Nat} {t : TypeId} {cs : List Value} (hc : Cells w g t cs) (hno : ∀ u ∈ cs, ∀ z, u ≠ .int .u8 z) {A : Option Addr} {ys : List UInt8} (hs : Span w A (u8s ys)) (k : Kp [g] w w') : Span w' A (u8s ys) := by
  rcases Nat.eq_zero_or_pos ys.length with h | h
  · obtain rfl : ys = [] := List.eq_nil_of_length_eq_zero h
    exact Span.nil _ _
  · exact hs.keep k (fun ad he hm => span_not hc hno hs h ad he (by simpa using hm))
theorem sink_no {w : World} {a : Nat} {s : SK} (h : SinkAt w a s) : ∃ cs, Cells w a 84 cs ∧ ∀ u ∈ cs, ∀ z, u ≠ .int .u8 z := by
  obtain ⟨R, h1, _⟩ := h
  refine ⟨_, h1, fun u hu z he => ?_⟩
  subst he
  simp at hu
theorem audit_no (al ao : Nat) (z : Int) : ∀ u ∈ [Value.pointer (some ⟨al, 0, none⟩), .pointer (some ⟨ao, 0, none⟩), .int .i64 z], ∀ z, u ≠ .int .u8 z := by
  intro u hu z he
  subst he
  simp at hu
structure AK.Ok (s : AK) : Prop where
  l : s.log.Ok
  o : s.out.Ok
theorem putB_small2 {r : Rec} (h : mayOf r = 0) : (putB r).length ≤ 900008 := by
  have h1 := bodyL_small h
  have h2 : (putB r).length = (bodyL r).length + 8 := by
    rw [putB, headL]
    simp only [List.length_append, List.length_reverse, length_be]
    omega
  omega
theorem AK.Ok.release {s : AK} (h : s.Ok) (r : Rec) (ys : List UInt8) (hy : ys.length ≤ 1900000) : (s.release r ys).1.Ok := by
  unfold AK.release
  split
  · exact h
  · split
    · exact h
    · rename_i hm
      have hp := putB_small2 (r := r) (by simpa using hm)
      split
      · exact h
      · split
        · exact ⟨h.l.write _ (by omega), h.o⟩
        · exact ⟨h.l.write _ (by omega), h.o.write _ hy⟩
def RelPost (w : World) (a al ao : Nat) (s : AK) (r : Rec) (ys : List UInt8) (e : Ending) (w' : World) : Prop :=
  e = .returned (.int .i64 (s.release r ys).2) ∧ AuditAt w' a al ao (s.release r ys).1 ∧ Kp [a, al, ao] w w'
/-- The sinks beside a store into the audit's own block. -/
theorem AuditAt.store {w : World} {a al ao : Nat} {s : AK} (h : AuditAt w a al ao s) (z : Int) : AuditAt (w.setCell ⟨a, 2, none⟩ (.int .i64 z)) a al ao ⟨s.log, s.out, z⟩ := by
  have k : Kp [a] w (w.setCell ⟨a, 2, none⟩ (.int .i64 z)) := (Kp.refl _ _).setCell (fun _ => by simp) _
  refine ⟨h.c.put 2 _, h.l.keep k ?_ ?_, h.o.keep k ?_ ?_, h.ne⟩
  · have := h.l.ne_audit h.c; simpa using this
  · intro x hx; simp at hx; subst hx; exact h.c.not (by decide)
  · have := h.o.ne_audit h.c; simpa using this
  · intro x hx; simp at hx; subst hx; exact h.c.not (by decide)
set_option maxRecDepth 100000 in
set_option maxHeartbeats 4000000 in
theorem release_any (w : World) (hT : Tabs w) (a al ao : Nat) (s : AK) (h : AuditAt w a al ao s) (hok : s.Ok) (v : Value) (r : Rec) (hr : RecIs w r v) (hz : ∀ x ∈ r.holes, x.size ≤ 9223372036854775807) (A : Option Addr) (n c : Nat) (ys : List UInt8)
    (hb : Span w A (u8s ys)) (hn : ys.length = n) (hc : n ≤ c) (h2 : n ≤ 1900000) :
    Calls Tryd.prog 29 #[.pointer (some ⟨a, 0, none⟩), v, .slice A n c] w (RelPost w a al ao s r ys) := by
  have Hn := hid hn
  clear hn
  obtain ⟨Ar, cr, rfl, hspr, hcr, hcr2⟩ := hr
  obtain ⟨m, hm⟩ : ∃ m, m = r.holes.length := ⟨_, rfl⟩
  rw [← hm] at hcr ⊢
  obtain ⟨w1, hw1, B1, K1⟩ : ∃ w1, w1 = w.alloc (.cells #[.int .i64 r.doc, .int .i64 r.out, .int .i64 r.len, .slice Ar m cr] 24) ∧
      Cells w1 w.heap.size 24 [.int .i64 r.doc, .int .i64 r.out, .int .i64 r.len, .slice Ar m cr] ∧ Kp [] w w1 := ⟨_, rfl, Cells.fresh _ _ _, (Kp.refl _ _).alloc _⟩
  have hRI : RecIs w1 r (.agg #[.int .i64 r.doc, .int .i64 r.out, .int .i64 r.len, .slice Ar m cr]) := ⟨Ar, cr, by rw [hm], hspr.kept K1, by omega, hcr2⟩
  have h1 := h.kept K1
  have K1' : Kp [a, al, ao] w w1 := K1.mono (by simp)
  obtain ⟨S, hS⟩ : ∃ S, S = w.heap.size := ⟨_, rfl⟩
  rw [← hS] at B1
  have HW := hid (And.intro hw1 hS)
  obtain ⟨g, hg⟩ : ∃ g, g = s.code := ⟨_, rfl⟩
  have c2 := h.c.cell 2
  have hla := h.c.lt
  simp only [List.getElem?_cons_zero, List.getElem?_cons_succ] at c2
  rw [← hg] at c2
  have Hg := hid hg
  clear hw1 hS hm hg
  by_cases h0 : g = 0
  · subst h0
    have R0 := B1.cell 0
    have R1 := B1.cell 1
    have R2 := B1.cell 2
    have R3 := B1.cell 3
    simp only [List.getElem?_cons_zero, List.getElem?_cons_succ] at R0 R1 R2 R3
    go_enter Tryd.func29, Tryd.ntmps29
    go_wp2_with fail
    rw [← HW.out.1, ← HW.out.2]
    refine (put_any w1 r _ hRI (hT.kept K1) hz).mono ?_
    rintro e w2 ⟨v2, rfl, ho2, hn2⟩
    have k2 := hn2.kp
    have h3 := h1.kept k2
    have B2 := B1.keep k2 (by simp)
    obtain ⟨A2, c2', rfl, hs2, hc2, -⟩ := ho2.shape
    obtain ⟨q, hq⟩ : ∃ q, q = mayOf r := ⟨_, rfl⟩
    obtain ⟨X, hX⟩ : ∃ X, X = putL r := ⟨_, rfl⟩
    rw [← hq]
    rw [← hX] at hs2 hc2 ⊢
    have Hq := hid hq
    have HX := hid hX
    clear hq hX ho2 hn2 c2 R0 R1 R2 R3
    by_cases hq0 : q = 0
    · subst hq0
      have R2 := B2.cell 2
      simp only [List.getElem?_cons_zero, List.getElem?_cons_succ] at R2
      by_cases hl : r.len = n
      · rw [hl] at R2
        have hXb : X = putB r := by rw [HX.out, putL, if_pos Hq.out.symm]
        have hXl : X.length ≤ 900008 := by rw [hXb]; exact putB_small2 Hq.out.symm
        have p0 := h3.c.cell 0
        have p1 := h3.c.cell 1
        have p2 := h3.c.cell 2
        have pf := h3.c.free 2
        simp only [List.getElem?_cons_zero, List.getElem?_cons_succ] at p0 p1 p2
        obtain ⟨N, hN⟩ : ∃ N, N = X.length := ⟨_, rfl⟩
        rw [← hN] at hXl hc2 ⊢
        have HN := hid hN
        have HXb := hid hXb
        have Hl := hid hl
        clear hN hXb hl
        go_wp2_with fail
        refine (note_any w2 al s.log A2 N c2' X h3.l hs2 HN.out.symm hc2 hok.l (by omega)).mono ?_
        rintro e w3 ⟨rfl, hl3, k3⟩
        have hna : a ∉ [al] := by
          have := h3.l.ne_audit h3.c
          simp
          exact fun e => this e.symm
        have h4 : AuditAt w3 a al ao ⟨(s.log.write X).1, s.out, s.code⟩ := ⟨h3.c.keep k3 hna, hl3, h3.o.beside k3 h3.l (Ne.symm h3.ne), h3.ne⟩
        have hb3 : Span w3 A (u8s ys) := by
          obtain ⟨cs, hcs, hno⟩ := sink_no h3.l
          exact span_keep hcs hno ((hb.kept K1).kept k2) k3
        have k13 : Kp [a, al, ao] w w3 := (K1.nil k2).mono (by simp) |>.trans k3 (by intro x hx _; simp at hx; simp [hx])
        obtain ⟨e1, he1⟩ : ∃ e1, e1 = (s.log.write X).2.2 := ⟨_, rfl⟩
        rw [← he1]
        have h5 := h4.store e1
        have hb5 : Span (w3.setCell ⟨a, 2, none⟩ (.int .i64 e1)) A (u8s ys) := span_keep h4.c (audit_no al ao _) hb3 ((Kp.refl _ _).setCell (fun _ => by simp) _)
        have k15 : Kp [a, al, ao] w (w3.setCell ⟨a, 2, none⟩ (.int .i64 e1)) := k13.setCell (fun _ => by simp) _
        have q2 := h4.c.cell 2
        have qf := h4.c.free 2
        have g1 := h5.c.cell 1
        have g2 := h5.c.cell 2
        have gf := h5.c.free 2
        simp only [List.getElem?_cons_zero, List.getElem?_cons_succ] at q2 g1 g2
        have hrel : s.release r ys = if e1 ≠ 0 then (⟨(s.log.write X).1, s.out, e1⟩, e1) else (⟨(s.log.write X).1, (s.out.write ys).1, (s.out.write ys).2.2⟩, (s.out.write ys).2.2) := by
          unfold AK.release
          rw [if_neg (by rw [← Hg.out]; simp), if_neg (by rw [← Hq.out]; simp), if_neg (by rw [Hl.out, Hn.out]; simp), ← HXb.out, ← he1]
        have He1 := hid he1
        have Hrel := hid hrel
        clear he1 hrel p0 p1 p2 pf R2 h3 h4 hl3 hb3 k13 hb hs2 B2 B1
        by_cases hz0 : e1 = 0
        · subst hz0
          go_wp2_with fail
          refine (write_ok _ ao s.out A n c ys h5.o hb5 Hn.out hc hok.o h2).mono ?_
          rintro e w6 ⟨rfl, ho6, k6, -⟩
          have hna6 : a ∉ [ao] := by
            have := h5.o.ne_audit h5.c
            simp
            exact fun e => this e.symm
          have h6 : AuditAt w6 a al ao ⟨(s.log.write X).1, (s.out.write ys).1, 0⟩ := ⟨h5.c.keep k6 hna6, h5.l.beside k6 h5.o h5.ne, ho6, h5.ne⟩
          obtain ⟨e2, he2⟩ : ∃ e2, e2 = (s.out.write ys).2.2 := ⟨_, rfl⟩
          rw [← he2]
          have h7 := h6.store e2
          have k17 : Kp [a, al, ao] w (w6.setCell ⟨a, 2, none⟩ (.int .i64 e2)) := (k15.trans k6 (by intro x hx _; simp at hx; simp [hx])).setCell (fun _ => by simp) _
          have z2 := h6.c.cell 2
          have zf := h6.c.free 2
          have y2 := h7.c.cell 2
          simp only [List.getElem?_cons_zero, List.getElem?_cons_succ] at z2 y2
          have He2 := hid he2
          clear he2 q2 qf g1 g2 gf
          go_wp2_with fail
          go_ret
          refine ⟨?_, ?_, k17⟩
          · rw [Hrel.out, if_neg (by simp), ← He2.out]; rfl
          · rw [Hrel.out, if_neg (by simp), ← He2.out]; exact h7
        · go_wp2_with fail
          go_ret
          refine ⟨?_, ?_, k15⟩
          · rw [Hrel.out, if_pos hz0]; rfl
          · rw [Hrel.out, if_pos hz0]; exact h5
      · have hl0 : (r.len != (n : Int)) = true := by simpa using hl
        have hfin : s.release r ys = (s, 1) := by
          unfold AK.release
          rw [if_neg (by rw [← Hg.out]; simp), if_neg (by rw [← Hq.out]; simp), if_pos (by rw [Hn.out]; exact hl)]
        have Hfin := hid hfin
        clear hfin
        go_wp2_with fail
        go_ret
        exact ⟨by rw [Hfin.out]; rfl, by rw [Hfin.out]; exact h3, (K1.nil k2).mono (by simp)⟩
    · have hfin : s.release r ys = (s, q) := by
        unfold AK.release
        rw [if_neg (by rw [← Hg.out]; simp), if_pos (by rw [← Hq.out]; exact hq0), ← Hq.out]
      have Hfin := hid hfin
      clear hfin
      go_wp2_with fail
      go_ret
      exact ⟨by rw [Hfin.out]; rfl, by rw [Hfin.out]; exact h3, (K1.nil k2).mono (by simp)⟩
  · have hfin : s.release r ys = (s, g) := by
      unfold AK.release
      rw [if_pos (by rw [← Hg.out]; exact h0), ← Hg.out]
    have Hfin := hid hfin
    clear hfin
    go_enter Tryd.func29, Tryd.ntmps29
    go_wp2_with fail
    rw [← HW.out.1]
    go_ret
    exact ⟨by rw [Hfin.out]; rfl, by rw [Hfin.out]; exact h1, K1'⟩
end Go.Proofs.YtepeopfdenieeaaDoor
